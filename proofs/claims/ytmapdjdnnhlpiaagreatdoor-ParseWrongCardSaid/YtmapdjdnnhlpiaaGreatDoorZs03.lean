/- Parts of the proof: HiO, HiP, HiY, HiQ. -/
import Derived.Test.YtmapdjdnnhlpiaaGreatDoorZs02
import Derived.Lib.ConvBytes
set_option linter.unusedSectionVars false
set_option linter.unusedVariables false
set_option linter.unusedSimpArgs false
namespace Go.Proofs.YtmapdjdnnhlpiaaGreatDoor
open Go.RowKit
mutual
def nm (m:Nat):HV→Bool
 | .hd id _ _=>decide (id<m)
 | .pt id _ _ _=>decide (id<m)
 | .ag cs=>nmL m cs
 | .tu cs=>nmL m cs
 | .fn _ cs=>nmL m cs
 | .ic _ x=>nm m x
 | .mp id=>decide (id<m)
 | .yl id=>decide (id<m)
 | _=>true
def nmL (m:Nat):List HV→Bool
 | []=>true
 | h::t=>nm m h && nmL m t
end
def nmR (m:Nat):List (List HV)→Bool
 | []=>true
 | r::t=>nmL m r && nmR m t
section
variable {Z:Nat→Prop} {w:World}
theorem take_get {α:Type} {l:List α} {m i:Nat} (h:i<m):(l.take m)[i]?=l[i]?:=by
 rw[List.getElem?_take,if_pos h]
mutual
theorem nm_spec:∀(h:HV) (m:Nat) (G:List (Option OG)) (y:Value) (fr:List Nat),nm m h=true→RV Z G w h y fr→RV Z (G.take m) w h y fr
 | .any,m,G,y,fr,hn,hr=>by simpa only[RV] using hr
 | .v x,m,G,y,fr,hn,hr=>by simpa only[RV] using hr
 | .sl rows,m,G,y,fr,hn,hr=>by simpa only[RV] using hr
 | .fp ..,m,G,y,fr,hn,hr=>by simpa only[RV] using hr
 | .ow ..,m,G,y,fr,hn,hr=>by simpa only[RV] using hr
 | .bx ..,m,G,y,fr,hn,hr=>by simpa only[RV] using hr
 | .ob _,m,G,y,fr,hn,hr=>by simp only[RV] at hr
 | .om ..,m,G,y,fr,hn,hr=>by simpa only[RV] using hr
 | .gv _,m,G,y,fr,hn,hr=>by simpa only[RV] using hr
 | .mp id,m,G,y,fr,hn,hr=>by
  simp only[nm,decide_eq_true_eq] at hn
  simp only[RV] at hr⊢
  obtain ⟨h1,h2,h3,h4⟩:=hr
  refine ⟨h1,h2,by simp;omega,fun g hg=>h4 g (by rwa [take_get hn] at hg)⟩
 | .yl id,m,G,y,fr,hn,hr=>by
  simp only[nm,decide_eq_true_eq] at hn
  simp only[RV] at hr⊢
  obtain ⟨h1,h3,l,h2,h4⟩:=hr
  refine ⟨h1,by simp;omega,l,h2,fun g hg=>h4 g (by rwa [take_get hn] at hg)⟩
 | .hd id off len,m,G,y,fr,hn,hr=>by
  simp only[nm,decide_eq_true_eq] at hn
  simp only[RV] at hr⊢
  obtain ⟨h1,h2,h3,h4⟩:=hr
  refine ⟨h1,h2,by simp;omega,fun g hg=>h4 g (by rwa [take_get hn] at hg)⟩
 | .pt id n r o,m,G,y,fr,hn,hr=>by
  simp only[nm,decide_eq_true_eq] at hn
  simp only[RV] at hr⊢
  obtain ⟨h1,h2,h3,h4⟩:=hr
  refine ⟨h1,h2,by simp;omega,fun g hg=>h4 g (by rwa [take_get hn] at hg)⟩
 | .ag cs,m,G,y,fr,hn,hr=>by
  simp only[RV] at hr⊢
  obtain ⟨ys,h1,h2⟩:=hr
  exact ⟨ys,h1,nmL_spec cs m G _ fr (by simpa [nm] using hn) h2⟩
 | .tu cs,m,G,y,fr,hn,hr=>by
  simp only[RV] at hr⊢
  obtain ⟨ys,h1,h2⟩:=hr
  exact ⟨ys,h1,nmL_spec cs m G _ fr (by simpa [nm] using hn) h2⟩
 | .fn f cs,m,G,y,fr,hn,hr=>by
  simp only[RV] at hr⊢
  obtain ⟨ys,h1,h2⟩:=hr
  exact ⟨ys,h1,nmL_spec cs m G _ fr (by simpa [nm] using hn) h2⟩
 | .ic t x,m,G,y,fr,hn,hr=>by
  simp only[RV] at hr⊢
  obtain ⟨h0,z,h1,h2⟩:=hr
  exact ⟨h0,z,h1,nm_spec x m G z [] (by simpa [nm] using hn) h2⟩
theorem nmL_spec:∀(l:List HV) (m:Nat) (G:List (Option OG)) (ys:List Value) (fr:List Nat),nmL m l=true→RL Z G w l ys fr→RL Z (G.take m) w l ys fr
 | [],m,G,ys,fr,hn,hr=>by simpa only[RL] using hr
 | h::t,m,G,ys,fr,hn,hr=>by
  simp only[nmL,Bool.and_eq_true] at hn
  simp only[RL] at hr⊢
  obtain ⟨y,ys',f1,f2,h1,h2,h3,h4⟩:=hr
  exact ⟨y,ys',f1,f2,h1,h2,nm_spec h m G y f1 hn.1 h3,nmL_spec t m G ys' f2 hn.2 h4⟩
end
theorem nmC_spec:∀(l:List HV) (m:Nat) (G:List (Option OG)) (b k:Nat) (fr:List Nat),nmL m l=true→RC Z G w l b k fr→RC Z (G.take m) w l b k fr
 | [],m,G,b,k,fr,hn,hr=>by simpa only[RC] using hr
 | h::t,m,G,b,k,fr,hn,hr=>by
  simp only[nmL,Bool.and_eq_true] at hn
  simp only[RC] at hr⊢
  obtain ⟨y,f1,f2,h1,h2,h3,h4,h5⟩:=hr
  exact ⟨y,f1,f2,h1,h2,h3,nm_spec h m G y f1 hn.1 h4,nmC_spec t m G b (k+1) f2 hn.2 h5⟩
theorem nmR_spec:∀(l:List (List HV)) (m:Nat) (G:List (Option OG)) (b k:Nat) (fr:List Nat),nmR m l=true→RR Z G w l b k fr→RR Z (G.take m) w l b k fr
 | [],m,G,b,k,fr,hn,hr=>by simpa only[RR] using hr
 | r::t,m,G,b,k,fr,hn,hr=>by
  simp only[nmR,Bool.and_eq_true] at hn
  simp only[RR] at hr⊢
  obtain ⟨f1,f2,h1,h2,h3⟩:=hr
  exact ⟨f1,f2,h1,nmC_spec r m G b k f1 hn.1 h2,nmR_spec t m G b (k+r.length) f2 hn.2 h3⟩
theorem OB.trunc {G:List (Option OG)} {o:HObj} {g:OG} {fp:List Nat} (hob:OB Z G w o g fp) (m:Nat) (hn:nmR m o.rows=true):OB Z (G.take m) w o g fp :=
 ⟨hob.e,hob.sz,hob.n,hob.len,hob.at_.imp id (by
   rintro (⟨b,cells,f,h1,h2,h3,h4,h5,h6,h7⟩ | ⟨x,hs,obj,f,h1,h2,h3,h4,h5,h6⟩)
   ·exact .inl ⟨b,cells,f,h1,h2,h3,h4,h5,h6,nmR_spec _ m G b 0 f hn h7⟩
   ·rw[h2] at hn
    simp only[nmR,nmL,nm,Bool.and_true,Bool.true_and] at hn
    exact .inr ⟨x,hs,obj,f,h1,h2,h3,h4,h5,nmL_spec hs m G _ f hn h6⟩)⟩
def nmH (m:Nat) (H:Heap):Bool:=(H.take m).all fun o=>match o with | some ob=>nmR m ob.rows | none=>true
theorem HInv.trunc {G:List (Option OG)} {FP:Nat→List Nat} {H:Heap} (h:HInv Z G FP H w) (m:Nat) (hm:nmH m H=true):HInv Z (G.take m) (fun j=>if j<m then FP j else []) (H.take m) w:=by
 have lt:∀{j:Nat} {x:Option HObj},(H.take m)[j]?=some x→j<m:=fun hj=>by
  have:=(List.getElem?_eq_some_iff.1 hj).1;simp at this;omega
 refine ⟨by simp[h.len],fun j hj=>?_,fun j hj=>?_,fun j o hj=>?_,fun j=>?_,fun i j b hi hj=>?_,h.zlt,fun j b hb=>?_,fun j b hb=>?_,h.glob⟩
 ·have:=lt hj;rw[take_get this] at hj⊢;exact h.dead j hj
 ·by_cases e:j<m
  ·simp only[if_pos e];exact h.nofp j (fun o=>by have:=hj o;rwa [take_get e] at this)
  ·simp[e]
 ·have e:=lt hj
  rw[take_get e] at hj
  obtain ⟨g,hg,hob⟩:=h.live j o hj
  refine ⟨g,by rw[take_get e];exact hg,?_⟩
  simp only[if_pos e]
  have hn:nmR m o.rows=true:=by
   have:=List.all_eq_true.1 hm (some o) (List.mem_of_getElem? (by rw[take_get e];exact hj))
   simpa using this
  exact hob.trunc m hn
 ·by_cases e:j<m
  ·simp only[if_pos e];exact h.nodup j
  ·simp[e]
 ·by_cases e1:i<m
  ·by_cases e2:j<m
   ·simp only[if_pos e1] at hi;simp only[if_pos e2] at hj;exact h.disj i j b hi hj
   ·simp[e2] at hj
  ·simp[e1] at hi
 ·by_cases e:j<m
  ·simp only[if_pos e] at hb;exact h.flt j b hb
  ·simp[e] at hb
 ·by_cases e:j<m
  ·simp only[if_pos e] at hb;exact h.zfp j b hb
  ·simp[e] at hb
theorem GLt.take {L m:Nat} {G:List (Option OG)} (hm:L≤m) (hL:L≤G.length):GLt L G (G.take m) :=
 ⟨by simp;omega,fun id hid=>.inr (.inl (take_get (by omega)))⟩
end
def Ghost (N L:Nat) (T:Nat→HV) (H:Heap) (T' : Nat→HV) (H' : Heap):Prop :=
 ∀B Z G FP ds a w,L≤G.length→St N B Z G FP ds T H a w→∃Z' G' FP',St N B Z' G' FP' ds T' H' a w∧GLt L G G'∧Evo Z FP w Z' FP' w
section
variable {P:Program} {N L:Nat} {T T' T'' : Nat→HV} {H H' H'' : Heap} {Q:Exit→(Nat→HV)→Heap→Prop}
theorem Ghost.refl:Ghost N L T H T H:=fun B Z G FP ds a w hL hs=>⟨Z,G,FP,hs,GLt.refl hL,Evo.refl _ _ _⟩
theorem Ghost.trans (h:Ghost N L T H T' H') (k:Ghost N L T' H' T'' H''):Ghost N L T H T'' H'':=fun B Z G FP ds a w hL hs=>by
 obtain ⟨Z1,G1,FP1,h1,h2,h3⟩:=h B Z G FP ds a w hL hs
 obtain ⟨Z2,G2,FP2,k1,k2,k3⟩:=k B Z1 G1 FP1 ds a w h2.len h1
 exact ⟨Z2,G2,FP2,k1,h2.trans k2,h3.trans k3⟩
theorem HW.ghost {c:Code} (g:Ghost N L T H T' H') (h:HW P N L c Q T' H'):HW P N L c Q T H:=by
 intro ro n B Z G FP ds a w hB hL hs
 obtain ⟨Z1,G1,FP1,h1,h2,h3⟩:=g B Z G FP ds a w hL hs
 refine wpIn_mono (h ro n B Z1 G1 FP1 ds a w (hB.evo h3) h2.len h1) ?_
 rintro e a' w' ⟨T'',H'',Z'',G'',FP'',ds'',k1,k2,k3,k4⟩
 exact ⟨T'',H'',Z'',G'',FP'',ds'',k1,k2,h2.trans k3,h3.trans k4⟩
def GQ (N L:Nat) (R:(Nat→HV)→Heap→Prop) (T:Nat→HV) (H:Heap):Prop:=∃T' H',Ghost N L T H T' H'∧R T' H'
theorem HW.weaken {c:Code} {Q' : Exit→(Nat→HV)→Heap→Prop} (h:HW P N L c Q' T H) (hq:∀e T H,Q' e T H→GQ N L (Q e) T H):HW P N L c Q T H:=by
 intro ro n B Z G FP ds a w hB hL hs
 refine wpIn_mono (h ro n B Z G FP ds a w hB hL hs) ?_
 rintro e a' w' ⟨T',H',Z',G',FP',ds',k1,k2,k3,k4⟩
 obtain ⟨T'',H'',g,hq'⟩:=hq e T' H' k1
 obtain ⟨Z1,G1,FP1,h1,h2,h3⟩:=g B Z' G' FP' ds' a' w' k3.len k2
 exact ⟨T'',H'',Z1,G1,FP1,ds',hq',h1,k3.trans h2,k4.trans h3⟩
theorem HW.loopG {c:Code} (I:Nat→(Nat→HV)→Heap→Prop) (k0:Nat) (h0:GQ N L (I k0) T H)
  (round:∀k T H,I k T H→HW P N L c (fin (GQ N L fun T' H'=>∃k',k' < k∧I k' T' H') Q) T H):HW P N L (.loop c) Q T H:=by
 obtain ⟨T0,H0,g,hI⟩:=h0
 refine HW.ghost g (HW.loop I k0 hI fun k T H hk=>HW.weaken (round k T H hk) ?_)
 intro e T H hq
 cases e with
 | normal=>exact hq
 | _=>exact ⟨T,H,Ghost.refl,hq⟩
def keepT (ks:List Nat) (T:Nat→HV):Nat→HV:=fun i=>if ks.contains i=true then T i else .any
theorem Ghost.trunc (ks:List Nat) (m:Nat) (hm:L≤m) (hk:(ks.all fun i=>nm m (T i))=true) (hH:nmH m H=true):Ghost N L T H (keepT ks T) (H.take m):=fun B Z G FP ds a w hL hs=>by
 refine ⟨Z,G.take m,fun j=>if j<m then FP j else [],⟨hs.inv.trunc m hH,hs.size,fun i hi=>?_,hs.defers,hs.dsn,fun d hd=>?_⟩,GLt.take hm hL,⟨rfl,rfl,rfl,Nat.le_refl _,fun _ _ _=>rfl,fun _ h=>h,fun _ h=>.inl h,fun j b hb=>?_⟩⟩
 ·unfold keepT
  split
  ·rename_i hin;exact nm_spec _ m G _ [] (List.all_eq_true.1 hk i (by simpa using hin)) (hs.tmps i hi)
  ·simp[RV]
 ·obtain ⟨h1,h2,h3,h4⟩:=hs.dsat d hd
  refine ⟨h1,h2,h3,fun j hj=>?_⟩
  by_cases e:j<m
  ·simp only[if_pos e] at hj;exact h4 j hj
  ·simp[e] at hj
 ·by_cases e:j<m
  ·simp only[if_pos e] at hb;exact .inr ⟨j,hb⟩
  ·simp[e] at hb
theorem Ghost.nil (i:Nat) (e:TypeId) (sz:Nat) (hi:T i=.v (.slice none 0 0)):Ghost N L T H (upd T i (.hd H.length 0 0)) (H++[some ⟨e,sz,[]⟩]):=fun B Z G FP ds a w hL hs=>by
 have hinv:=hs.inv.new (w':=w) (o:=⟨e,sz,[]⟩) (g:=⟨none,e,sz,0,0⟩) (fp:=[]) (Nat.le_refl _) (fun _ _=>rfl) ⟨rfl,rfl,rfl,by simp,.inl ⟨rfl,rfl,rfl⟩⟩ (by simp) (by simp)
 have hE:Evo Z FP w Z (fun j=>if j=H.length then [] else FP j) w:=evo_new (hs.inv.nofp _ (by simp)) rfl rfl rfl (Nat.le_refl _) (fun _ _=>rfl) (by simp)
 have hs':=hs.evo hinv (GLe.more _) hE
 refine ⟨Z,_,_,⟨hs'.inv,hs'.size,fun j hj=>?_,hs'.defers,hs'.dsn,hs'.dsat⟩,GLt.of hL (GLe.more _),hE⟩
 unfold upd
 split
 ·rename_i hji
  subst hji
  have h0:=hs.tmps j hj
  rw[hi] at h0
  rw[RV_v h0]
  simp only[RV]
  rw[←hs.inv.len]
  refine ⟨trivial,rfl,by simp,fun g hg=>?_⟩
  simp at hg;subst hg
  exact ⟨Nat.le_refl _,fun _=>⟨rfl,rfl,rfl⟩⟩
 ·exact hs'.tmps j hj
def absorb (H:Heap) (id r c:Nat):Heap :=
 match H[id]? with
 | some (some ob) =>
  match ob.rows[r]? with
  | some row =>
   match row[c]? with
   | some (.hd j 0 len) =>
    match H[j]? with
    | some (some oj)=>if j≠id∧len=oj.rows.length∧nmR 0 oj.rows=true then (H.set j none).set id (some { ob with rows:=ob.rows.set r (row.set c (.ow oj.e oj.sz oj.rows)) }) else H
    | _=>H
   | some (.pt j 1 0 0) =>
    match H[j]? with
    | some (some oj) =>
     match oj.rows with
     | [rw]=>if j≠id∧nmL 0 rw=true then (H.set j none).set id (some { ob with rows:=ob.rows.set r (row.set c (.bx oj.e oj.sz rw)) }) else H
     | _=>H
    | _=>H
   | some (.mp j) =>
    match H[j]? with
    | some (some oj) =>
     match oj.rows with
     | [.ob x::hs]=>if j≠id∧nmL 0 hs=true then (H.set j none).set id (some { ob with rows:=ob.rows.set r (row.set c (.om x hs)) }) else H
     | _=>H
    | _=>H
   | _=>H
  | none=>H
 | _=>H
end
section
variable {Z:Nat→Prop} {G:List (Option OG)} {FP:Nat→List Nat} {H:Heap} {w:World}
theorem obj_ow {id len:Nat} {oj:HObj} {y:Value} (hi:HInv Z G FP H w) (ho:H[id]?=some (some oj)) (hlen:len=oj.rows.length) (hn:nmR 0 oj.rows=true) (hv:RV Z G w (.hd id 0 len) y []) (G' : List (Option OG)):RV Z G' w (.ow oj.e oj.sz oj.rows) y (FP id):=by
 obtain ⟨g,hg,hOB,hview⟩:=hd_at hi ho (by omega) hv
 simp only[RV]
 unfold View at hview
 split at hview
 ·rename_i hbn
  obtain ⟨hview,hv1,hv2⟩:=hview
  rcases hOB.at_ with ⟨_,e1,e2⟩ | ⟨b,cells,f,e1,_⟩ | ⟨u3,hs3,obj3,f3,e1,e3,_⟩
  ·exact .inl ⟨e1,hview,e2⟩
  ·rw[hbn] at e1;cases e1
  ·have:=congrArg List.length e3;simp only[List.length_cons,List.length_nil] at this;omega
 ·rename_i b hb
  obtain ⟨ad,hy,hA⟩:=hview
  obtain ⟨b',cells,f,e1,e2,e3,e4,e5,e6,e7⟩:=hOB.cells_ hb
  rw[hb] at e1;cases e1
  have:=nmR_spec _ 0 G b 0 f hn e7
  rw[List.take_zero] at this
  exact .inr ⟨b,g.cap,cells,f,by rw[hy,hA (.inr rfl),hlen];simp,e2,e3,e4,e5,e6,hOB.len,this⟩
theorem obj_bx {id:Nat} {oj:HObj} {row:List HV} {y:Value} (hi:HInv Z G FP H w) (ho:H[id]?=some (some oj)) (hrow:oj.rows=[row]) (hn:nmL 0 row=true) (hv:RV Z G w (.pt id 1 0 0) y []) (G' : List (Option OG)):RV Z G' w (.bx oj.e oj.sz row) y (FP id):=by
 obtain ⟨g,b,cells,f,hg,hOB,hb,hf,hh,hc,hcap,hml,hrr,hy,hrl⟩:=pt_at hi ho (n:=1) (r:=0) (o:=0) (by rw[hrow];rfl) (row:=row) (by rw[hrow];rfl) hv
 simp only[RV]
 rw[hrow] at hrr hcap
 simp only[RR] at hrr
 obtain ⟨f1,f2,hf12,h1,h2⟩:=hrr
 subst h2
 rw[List.append_nil] at hf12
 subst hf12
 have:=nmC_spec row 0 G b 0 f hn h1
 rw[List.take_zero] at this
 exact ⟨b,g.cap,cells,f,by rw[hy];simp,hf,hh,hc,by simpa using hcap,hml,hrl,this⟩
theorem obj_om {id:Nat} {oj:HObj} {x:Obj} {hs:List HV} {y:Value} (hi:HInv Z G FP H w) (ho:H[id]?=some (some oj)) (hrow:oj.rows=[.ob x::hs]) (hn:nmL 0 hs=true) (hv:RV Z G w (.mp id) y []) (G' : List (Option OG)):RV Z G' w (.om x hs) y (FP id):=by
 obtain ⟨g,hg,hOB⟩:=hi.live id oj ho
 simp only[RV] at hv⊢
 obtain ⟨_,_,_,hv⟩:=hv
 rcases hOB.at_ with ⟨_,e1,_⟩ | ⟨b,cells,f,e1,e2,e3,e4,e5,e6,e7⟩ | ⟨x',hs',obj,f,e1,e2,e3,e4,e5,e6⟩
 ·rw[hrow] at e1;cases e1
 ·rw[hrow] at e7
  simp only[RR,RC,RV] at e7
  obtain ⟨_,_,_,⟨_,_,_,_,_,_,h,_⟩,_⟩:=e7
  exact h.elim
 ·rw[hrow] at e2
  cases e2
  have hy:=(hv g hg).2 (by rw[hOB.n,hrow];rfl) e1
  have:=nmL_spec hs 0 G _ f hn e6
  rw[List.take_zero] at this
  exact ⟨g.cap,obj,f,hy,e3,e4,e5,this⟩
theorem absorb_core {id j r c:Nat} {ob oj:HObj} {row:List HV} {x h' : HV} (hi:HInv Z G FP H w) (ho:H[id]?=some (some ob)) (hr:ob.rows[r]?=some row) (hc:row[c]?=some x) (hj:H[j]?=some (some oj)) (hne:j≠id)
  (hx:∀y,RV Z G w x y []→∀G',RV Z G' w h' y (FP j)) (htv:tv x=true) (hnb:∀u,x≠.ob u) :
  ∃G' FP',HInv Z G' FP' ((H.set j none).set id (some { ob with rows:=ob.rows.set r (row.set c h') })) w∧GLe G G'∧Evo Z FP w Z FP' w:=by
 have k1:=hi.kill j
 have hoj:(H.set j none)[id]?=some (some ob):=by rw[List.getElem?_set_ne hne];exact ho
 obtain ⟨g,hg0,hOB⟩:=hi.live id ob ho
 have hg:(G.set j none)[id]?=some (some g):=by rw[List.getElem?_set_ne hne];exact hg0
 obtain ⟨y,fx,fa,hv,hperm,hsw⟩:=hOB.swap hr hc hnb
 have hfx:fx=[]:=RV_tv x y fx htv hv
 subst hfx
 obtain ⟨fp',hOB',hp'⟩:=hsw (G.set j none) h' (FP j) (GLe.kill j) (hx y hv _)
 simp only[List.nil_append] at hperm
 have hndj:=hi.nodup j
 have hndi:=hi.nodup id
 have hdis:∀b,b∈FP j→b∈FP id→False:=fun b h1 h2=>hne (hi.disj j id b h1 h2)
 have hnd' : fp'.Nodup:=by
  rw[hp'.nodup_iff]
  exact List.nodup_append.2 ⟨hndj,hperm.nodup_iff.1 hndi,fun a ha b hb e=>by subst e;exact hdis a ha (hperm.mem_iff.2 hb)⟩
 have hmem:∀b∈fp',b∈FP j∨b∈FP id:=fun b hb=>by
  rcases List.mem_append.1 (hp'.mem_iff.1 hb) with h | h
  ·exact .inl h
  ·exact .inr (hperm.mem_iff.2 h)
 have i2:=k1.say hoj hg hOB' hnd' (fun b hb=>by
  rcases hmem b hb with h | h
  ·refine ⟨hi.zfp j b h,hi.flt j b h,fun q hq hc=>?_⟩
   by_cases e:q=j
   ·simp[e] at hc
   ·simp only[if_neg e] at hc;exact e (hi.disj q j b hc h)
  ·refine ⟨hi.zfp id b h,hi.flt id b h,fun q hq hc=>?_⟩
   by_cases e:q=j
   ·simp[e] at hc
   ·simp only[if_neg e] at hc;exact hq (hi.disj q id b hc h))
 refine ⟨_,_,i2,GLe.kill j,⟨rfl,rfl,rfl,Nat.le_refl _,fun _ _ _=>rfl,fun _ h=>h,fun _ h=>.inl h,fun q b hb=>?_⟩⟩
 by_cases e:q=id
 ·simp only[if_pos e] at hb
  rcases hmem b hb with h | h
  ·exact .inr ⟨_,h⟩
  ·exact .inr ⟨_,h⟩
 ·simp only[if_neg e] at hb
  by_cases e2:q=j
  ·simp[e2] at hb
  ·simp only[if_neg e2] at hb;exact .inr ⟨q,hb⟩
theorem absorb_inv (hi:HInv Z G FP H w) (id r c:Nat):∃G' FP',HInv Z G' FP' (absorb H id r c) w∧GLe G G'∧Evo Z FP w Z FP' w:=by
 have none:∃G' FP',HInv Z G' FP' H w∧GLe G G'∧Evo Z FP w Z FP' w:=⟨G,FP,hi,GLe.refl _,Evo.refl _ _ _⟩
 unfold absorb
 split
 ·rename_i ob ho
  split
  ·rename_i row hr
   split
   ·rename_i j len hc
    split
    ·rename_i oj hj
     split
     ·rename_i hcond
      exact absorb_core hi ho hr hc hj hcond.1 (fun y hv G'=>obj_ow hi hj hcond.2.1 hcond.2.2 hv G') rfl (by simp)
     ·exact none
    ·exact none
   ·rename_i j hc
    split
    ·rename_i oj hj
     split
     ·rename_i rw' hrw
      split
      ·rename_i hcond
       exact absorb_core hi ho hr hc hj hcond.1 (fun y hv G'=>obj_bx hi hj hrw hcond.2 hv G') rfl (by simp)
      ·exact none
     ·exact none
    ·exact none
   ·rename_i j hc
    split
    ·rename_i oj hj
     split
     ·rename_i x hs hrw
      split
      ·rename_i hcond
       exact absorb_core hi ho hr hc hj hcond.1 (fun y hv G'=>obj_om hi hj hrw hcond.2 hv G') rfl (by simp)
      ·exact none
     ·exact none
    ·exact none
   ·exact none
  ·exact none
 ·exact none
theorem Ghost.absorb {N L:Nat} {T:Nat→HV} (id r c:Nat):Ghost N L T H T (absorb H id r c):=fun B Z G FP ds a w hL hs=>by
 obtain ⟨G',FP',h1,h2,h3⟩:=absorb_inv hs.inv id r c
 exact ⟨Z,G',FP',hs.evo h1 h2 h3,GLt.of hL h2,h3⟩
end
end Go.Proofs.YtmapdjdnnhlpiaaGreatDoor
namespace Go.Proofs.YtmapdjdnnhlpiaaGreatDoor
open Go.RowKit
mutual
def packV (L:Nat):HV→Heap→HV×Heap
 | .hd id off len,H =>
  if id<L then (.hd id off len,H)
  else match H[id]? with
   | some (some ob)=>if off=0∧len=ob.rows.length∧nmR 0 ob.rows=true then (.ow ob.e ob.sz ob.rows,H.set id none) else (.any,H)
   | _=>(.any,H)
 | .pt id n r o,H =>
  if id<L then (.pt id n r o,H)
  else match H[id]? with
   | some (some ob) =>
    match ob.rows with
    | [row]=>if n=1∧r=0∧o=0∧nmL 0 row=true then (.bx ob.e ob.sz row,H.set id none) else (.any,H)
    | _=>(.any,H)
   | _=>(.any,H)
 | .ag cs,H=>(.ag (packL L cs H).1,(packL L cs H).2)
 | .tu cs,H=>(.tu (packL L cs H).1,(packL L cs H).2)
 | .fn f cs,H=>(.fn f (packL L cs H).1,(packL L cs H).2)
 | .ic t x,H=>if nm L x=true then (.ic t x,H) else (.any,H)
 | .mp id,H =>
  if id<L then (.mp id,H)
  else match H[id]? with
   | some (some ob) =>
    match ob.rows with
    | [.ob x::hs]=>if nmL 0 hs=true then (.om x hs,H.set id none) else (.any,H)
    | _=>(.any,H)
   | _=>(.any,H)
 | .yl id,H=>if id<L then (.yl id,H) else (.any,H)
 | x,H=>(x,H)
def packL (L:Nat):List HV→Heap→List HV×Heap
 | [],H=>([],H)
 | h::t,H=>((packV L h H).1::(packL L t (packV L h H).2).1,(packL L t (packV L h H).2).2)
end
theorem GLe.take {G G' : List (Option OG)} (h:GLe G G') (m:Nat):GLe (G.take m) (G'.take m):=by
 refine ⟨by have:=h.len;simp;omega,fun id hid=>?_⟩
 have h1:id<m:=by simp at hid;omega
 have h2:id<G.length:=by simp at hid;omega
 rw[take_get h1,take_get h1]
 exact h.at_ id h2
structure Packed (Z:Nat→Prop) (G:List (Option OG)) (FP:Nat→List Nat) (w:World) (fr:List Nat) (G' : List (Option OG)) (FP' : Nat→List Nat) (H' : Heap):Prop where
 inv:HInv Z G' FP' H' w
 le:GLe G G'
 nodup:fr.Nodup
 fr:∀b∈fr,(∃id,b∈FP id)∧∀id,b∉FP' id
 fp:∀id b,b∈FP' id→b∈FP id
section
variable {Z:Nat→Prop} {w:World}
theorem Packed.nil {G:List (Option OG)} {FP:Nat→List Nat} {H:Heap} (hi:HInv Z G FP H w):Packed Z G FP w [] G FP H :=
 ⟨hi,GLe.refl _,by simp,by simp,fun _ _ h=>h⟩
theorem Packed.kill {G:List (Option OG)} {FP:Nat→List Nat} {H:Heap} (hi:HInv Z G FP H w) (id:Nat):Packed Z G FP w (FP id) (G.set id none) (fun j=>if j=id then [] else FP j) (H.set id none):=by
 refine ⟨hi.kill id,GLe.kill id,hi.nodup id,fun b hb=>⟨⟨id,hb⟩,fun j hj=>?_⟩,fun j b hb=>?_⟩
 ·by_cases e:j=id
  ·simp[e] at hj
  ·simp only[if_neg e] at hj;exact e (hi.disj j id b hj hb)
 ·by_cases e:j=id
  ·simp[e] at hb
  ·simpa only[if_neg e] using hb
mutual
theorem packV_spec {L:Nat}:∀(h:HV) (G:List (Option OG)) (FP:Nat→List Nat) (H:Heap) (y:Value),HInv Z G FP H w→RV Z G w h y []→
  ∃G' FP' fr,Packed Z G FP w fr G' FP' (packV L h H).2∧RV Z (G'.take L) w (packV L h H).1 y fr
 | .any,G,FP,H,y,hi,hr=>⟨G,FP,[],.nil hi,by simp[packV,RV]⟩
 | .v x,G,FP,H,y,hi,hr=>⟨G,FP,[],.nil hi,by simpa only[packV,RV] using hr⟩
 | .sl rows,G,FP,H,y,hi,hr=>⟨G,FP,[],.nil hi,by simpa only[packV,RV] using hr⟩
 | .fp ..,G,FP,H,y,hi,hr=>⟨G,FP,[],.nil hi,by simpa only[packV,RV] using hr⟩
 | .ow ..,G,FP,H,y,hi,hr=>⟨G,FP,[],.nil hi,by simpa only[packV,RV] using hr⟩
 | .bx ..,G,FP,H,y,hi,hr=>⟨G,FP,[],.nil hi,by simpa only[packV,RV] using hr⟩
 | .ob _,G,FP,H,y,hi,hr=>by simp only[RV] at hr
 | .om ..,G,FP,H,y,hi,hr=>⟨G,FP,[],.nil hi,by simpa only[packV,RV] using hr⟩
 | .gv _,G,FP,H,y,hi,hr=>⟨G,FP,[],.nil hi,by simpa only[packV,RV] using hr⟩
 | .mp id,G,FP,H,y,hi,hr=>by
  unfold packV
  split
  ·rename_i hlt
   exact ⟨G,FP,[],.nil hi,nm_spec _ L G y [] (by simpa [nm] using hlt) hr⟩
  ·split
   ·rename_i ob ho
    split
    ·rename_i x hs hrow
     split
     ·rename_i h3
      exact ⟨_,_,_,.kill hi id,obj_om hi ho hrow h3 hr _⟩
     ·exact ⟨G,FP,[],.nil hi,by simp[RV]⟩
    ·exact ⟨G,FP,[],.nil hi,by simp[RV]⟩
   ·exact ⟨G,FP,[],.nil hi,by simp[RV]⟩
 | .yl id,G,FP,H,y,hi,hr=>by
  unfold packV
  split
  ·rename_i hlt
   exact ⟨G,FP,[],.nil hi,nm_spec _ L G y [] (by simpa [nm] using hlt) hr⟩
  ·exact ⟨G,FP,[],.nil hi,by simp[RV]⟩
 | .hd id off len,G,FP,H,y,hi,hr=>by
  unfold packV
  split
  ·rename_i hlt
   exact ⟨G,FP,[],.nil hi,nm_spec _ L G y [] (by simpa [nm] using hlt) hr⟩
  ·split
   ·rename_i ob ho
    split
    ·rename_i hc
     obtain ⟨rfl,h2,h3⟩:=hc
     exact ⟨_,_,_,.kill hi id,obj_ow hi ho h2 h3 hr _⟩
    ·exact ⟨G,FP,[],.nil hi,by simp[RV]⟩
   ·exact ⟨G,FP,[],.nil hi,by simp[RV]⟩
 | .pt id n r o,G,FP,H,y,hi,hr=>by
  unfold packV
  split
  ·rename_i hlt
   exact ⟨G,FP,[],.nil hi,nm_spec _ L G y [] (by simpa [nm] using hlt) hr⟩
  ·split
   ·rename_i ob ho
    split
    ·rename_i row hrow
     split
     ·rename_i hc
      obtain ⟨rfl,rfl,rfl,h3⟩:=hc
      exact ⟨_,_,_,.kill hi id,obj_bx hi ho hrow h3 hr _⟩
     ·exact ⟨G,FP,[],.nil hi,by simp[RV]⟩
    ·exact ⟨G,FP,[],.nil hi,by simp[RV]⟩
   ·exact ⟨G,FP,[],.nil hi,by simp[RV]⟩
 | .ag cs,G,FP,H,y,hi,hr=>by
  simp only[RV] at hr
  obtain ⟨ys,rfl,h⟩:=hr
  obtain ⟨G',FP',fr,h1,h2⟩:=packL_spec cs G FP H _ hi h
  exact ⟨G',FP',fr,h1,by simp only[packV,RV];exact ⟨ys,rfl,h2⟩⟩
 | .tu cs,G,FP,H,y,hi,hr=>by
  simp only[RV] at hr
  obtain ⟨ys,rfl,h⟩:=hr
  obtain ⟨G',FP',fr,h1,h2⟩:=packL_spec cs G FP H _ hi h
  exact ⟨G',FP',fr,h1,by simp only[packV,RV];exact ⟨ys,rfl,h2⟩⟩
 | .fn f cs,G,FP,H,y,hi,hr=>by
  simp only[RV] at hr
  obtain ⟨ys,rfl,h⟩:=hr
  obtain ⟨G',FP',fr,h1,h2⟩:=packL_spec cs G FP H _ hi h
  exact ⟨G',FP',fr,h1,by simp only[packV,RV];exact ⟨ys,rfl,h2⟩⟩
 | .ic t x,G,FP,H,y,hi,hr=>by
  unfold packV
  split
  ·rename_i hn
   exact ⟨G,FP,[],.nil hi,nm_spec _ L G y [] (by simpa [nm] using hn) hr⟩
  ·exact ⟨G,FP,[],.nil hi,by simp[RV]⟩
theorem packL_spec {L:Nat}:∀(l:List HV) (G:List (Option OG)) (FP:Nat→List Nat) (H:Heap) (ys:List Value),HInv Z G FP H w→RL Z G w l ys []→
  ∃G' FP' fr,Packed Z G FP w fr G' FP' (packL L l H).2∧RL Z (G'.take L) w (packL L l H).1 ys fr
 | [],G,FP,H,ys,hi,hr=>⟨G,FP,[],.nil hi,by simpa only[packL,RL] using hr⟩
 | h::t,G,FP,H,ys,hi,hr=>by
  simp only[RL] at hr
  obtain ⟨y,ys',f1,f2,rfl,hf,h1,h2⟩:=hr
  obtain ⟨rfl,rfl⟩:=List.append_eq_nil_iff.1 hf.symm
  obtain ⟨G1,FP1,fr1,p1,r1⟩:=packV_spec (L:=L) h G FP H y hi h1
  obtain ⟨G2,FP2,fr2,p2,r2⟩:=packL_spec (L:=L) t G1 FP1 _ ys' p1.inv (RL.keep (fun _ _=>rfl) (fun _ h=>h) p1.le _ _ _ (fun _ _=>rfl) h2)
  refine ⟨G2,FP2,fr1++fr2,⟨p2.inv,p1.le.trans p2.le,List.nodup_append.2 ⟨p1.nodup,p2.nodup,fun a ha b hb e=>?_⟩,fun b hb=>?_,fun id b hb=>p1.fp id b (p2.fp id b hb)⟩,?_⟩
  ·subst e
   obtain ⟨⟨id,h3⟩,_⟩:=p2.fr a hb
   exact (p1.fr a ha).2 id h3
  ·rcases List.mem_append.1 hb with hb | hb
   ·exact ⟨(p1.fr b hb).1,fun id hc=>(p1.fr b hb).2 id (p2.fp id b hc)⟩
   ·obtain ⟨⟨id,h3⟩,h4⟩:=p2.fr b hb
    exact ⟨⟨id,p1.fp id b h3⟩,h4⟩
  ·simp only[packL,RL]
   exact ⟨y,ys',fr1,fr2,rfl,rfl,RV.keep (fun _ _=>rfl) (fun _ h=>h) (p2.le.take L) _ _ _ (fun _ _=>rfl) r1,r2⟩
end
end
def retV (res:List Nat) (T:Nat→HV):HV :=
 match res with
 | [i]=>T i
 | l=>.tu (l.map T)
def resAre:List ResultVar→List Nat→Bool
 | [],[]=>true
 | .tmp i::r,j::s=>i == j && resAre r s
 | _,_=>false
def fnOk (fn:Func) (N:Nat) (res:List Nat) (k:Nat):Bool:=!(fn.name == "runtime.NumGoroutine") && fn.ntmps == N && resAre fn.results.toList res && res.all (fun i=>decide (i<N)) && Nat.ble k N
def T0 (args:List HV):Nat→HV:=fun i=>args.getD i .any
def endP (L:Nat) (Q:HV→Heap→Prop) (x:HV×Heap):Prop:=nmH L x.2=true∧Q x.1 (x.2.take L)
def endQ (res:List Nat) (L:Nat) (Q:HV→Heap→Prop) (e:Exit) (T:Nat→HV) (H:Heap):Prop :=
 match e with
 | .normal=>endP L Q (packV L (retV res T) H)
 | .ret=>endP L Q (packV L (retV res T) H)
 | _=>False
section
variable {P:Program} {Z:Nat→Prop} {w:World}
theorem resAre_spec:∀(r:List ResultVar) (s:List Nat),resAre r s=true→r=s.map .tmp
 | [],[],_=>rfl
 | .tmp i::r,j::s,h=>by
  simp only[resAre,Bool.and_eq_true,beq_iff_eq] at h
  rw[h.1,resAre_spec r s h.2];rfl
 | [],_::_,h=>by simp[resAre] at h
 | .cell _ _::_,[],h=>by simp[resAre] at h
 | .cell _ _::_,_::_,h=>by simp[resAre] at h
 | .tmp _::_,[],h=>by simp[resAre] at h
theorem run_retV {fn:Func} {res:List Nat} {N:Nat} {G:List (Option OG)} {T:Nat→HV} {tmps:Array Value} (hres:fn.results.toList=res.map .tmp) (hok:∀i∈res,i<N) (hs:∀i,i<N→RV Z G w (T i) (tmps.getD i undef) []):∃v,(results fn tmps).run P w=.ok v w∧RV Z G w (retV res T) v []:=by
 have key:∀l:List Nat,(∀i∈l,i<N)→((l.map ResultVar.tmp).mapM (m:=Sem) fun r=>match r with
   | .tmp t=>pure (tmps.getD t undef)
   | .cell a t=>do loadVar t (←asAddr (tmps.getD a undef))).run P w=.ok (l.map fun i=>tmps.getD i undef) w∧RL Z G w (l.map T) (l.map fun i=>tmps.getD i undef) []:=by
  intro l
  induction l with
  | nil=>intro _;exact ⟨by simp,by simp[RL]⟩
  | cons i l ih =>
   intro h
   obtain ⟨h1,h2⟩:=ih (fun x hx=>h x (by simp[hx]))
   refine ⟨?_,?_⟩
   ·rw[List.map_cons,List.mapM_cons]
    simp only[Sem.run_bind,Sem.run_pure,Result.andThen_ok,h1,List.map_cons]
   ·simp only[List.map_cons,RL]
    exact ⟨_,_,[],[],rfl,rfl,hs i (h i (by simp)),h2⟩
 obtain ⟨h1,h2⟩:=key res hok
 have hrun:(fn.results.mapM (m:=Sem) fun r=>match r with
   | .tmp t=>pure (tmps.getD t undef)
   | .cell a t=>do loadVar t (←asAddr (tmps.getD a undef))).run P w=.ok (res.map fun i=>tmps.getD i undef).toArray w:=by
  rw[Array.mapM_eq_mapM_toList,hres]
  simp only[map_eq_pure_bind,Sem.run_bind,h1,Result.andThen_ok,Sem.run_pure]
 unfold results
 simp only[Sem.run_bind]
 erw [hrun]
 simp only[Result.andThen_ok,Sem.run_pure]
 refine ⟨_,rfl,?_⟩
 unfold retV
 split
 ·rename_i i
  have:=hs i (hok i (by simp))
  simpa using this
 ·rename_i hne
  split
  ·rename_i h1'
   exfalso
   have hl1:res.length=1:=by simpa using h1'
   match res,hl1,hne with
   | [i],_,hne=>exact hne i rfl
  ·simp only[RV]
   exact ⟨_,rfl,h2⟩
theorem T0_spec {G:List (Option OG)} {args:List HV} {vals:List Value} (n:Nat) (h:RL Z G w args vals []):∀i,i<n→RV Z G w (T0 args i) ((vals.toArray++Array.replicate (n-vals.toArray.size) undef).getD i undef) []:=by
 intro i hi
 have hl:=RL_length _ _ _ h
 unfold T0
 by_cases hlt:i<args.length
 ·obtain ⟨y,f,hy,hr,hsub⟩:=RL_get _ _ _ h i args[i] (by simp[hlt])
  have:f=[]:=List.eq_nil_of_sublist_nil hsub
  subst this
  have e1:args.getD i .any=args[i]:=by simp[hlt]
  have e2:(vals.toArray++Array.replicate (n-vals.toArray.size) undef).getD i undef=y:=by
   rw[Array.getD_eq_getD_getElem?,Array.getElem?_append_left (by simp;omega)]
   simp[hy]
  rw[e1,e2];exact hr
 ·have e1:args.getD i .any=.any:=by simp[List.getD_eq_getElem?_getD,List.getElem?_eq_none (Nat.le_of_not_lt hlt)]
  rw[e1]
  simp[RV]
theorem leaves_marks {ro:Option Nat} {n:Nat} {fn:Func} {tmps:Array Value} {R:Ending→World→Prop}:∀(ds:List Nat) (w:World),ds.Nodup→(∀d∈ds,w.heap[d]?=some (.deferred (some [])))→
  (∀w',w'.os=w.os→w'.tape=w.tape→w'.output=w.output→w'.heap.size=w.heap.size→(∀b,b∉ds→w'.heap[b]?=w.heap[b]?)→∃v,(results fn tmps).run P w'=.ok v w'∧R (.returned v) w')→
  LeavesInM (Wd ro) n P fn tmps R (marks ds) .returning w
 | [],w,_,_,h=>by
  simp only[marks,List.map_nil,LeavesInM,LeavesIn]
  exact h w rfl rfl rfl rfl (fun _ _=>rfl)
 | d::ds,w,hnd,hd,h=>by
  have hdd:=hd d (by simp)
  obtain ⟨hn1,hn2⟩:=List.nodup_cons.1 hnd
  have hlt:d<w.heap.size:=(Array.getElem?_eq_some_iff.1 hdd).1
  simp only[marks,List.map_cons,LeavesInM]
  refine ⟨by simp,.inl ⟨d,{ w with heap:=w.heap.setIfInBounds d (.deferred none) },rfl,?_,?_⟩⟩
  ·have:=run_takeDeferred (P:=P) hdd
   rw[this]
   rfl
  ·refine leaves_marks ds _ hn2 (fun e he=>?_) ?_
   ·have:d≠e:=fun e'=>hn1 (e'▸he)
    simp[Array.getElem?_setIfInBounds_ne this,hd e (by simp[he])]
   ·intro w' ho ht hout hsz hk
    refine h w' ho ht hout (by rw[hsz];simp) (fun b hb=>?_)
    rw[hk b (fun hc=>hb (by simp[hc]))]
    have:d≠b:=fun e=>hb (by simp[e])
    simp[Array.getElem?_setIfInBounds_ne this]
theorem HCalls_body {f:FuncId} {fn:Func} {c:Code} {H:Heap} {args:List HV} {Q:HV→Heap→Prop} (N:Nat) (res:List Nat) (hf:P.funcs[f]?=some fn) (hb:fn.body=some c) (hok:fnOk fn N res args.length=true)
  (h:HW P N H.length c (endQ res H.length Q) (T0 args) H):HCalls P f H args Q:=by
 simp only[fnOk,Bool.and_eq_true,beq_iff_eq,Bool.not_eq_true'] at hok
 obtain ⟨⟨⟨⟨hname,hNN⟩,hres⟩,hrlt⟩,hN0⟩:=hok
 subst hNN
 have hN:args.length≤fn.ntmps:=Nat.le_of_ble_eq_true hN0
 have hres:=resAre_spec _ _ hres
 have hrlt:∀i∈res,i<fn.ntmps:=fun i hi=>by simpa using List.all_eq_true.1 hrlt i hi
 have hne:¬fn.name = "runtime.NumGoroutine" :=by simpa using hname
 refine ⟨fun vals w=>by simp[callFunc,hf,hne,hb],fun Z G FP w vals hi ha=>?_⟩
 refine callsIn_wide.1 (callsIn_of_wp_marks (F:=Fence.wide) (n:=0) hf hb trivial ?_)
 have hlen:=RL_length _ _ _ ha
 have hsz:(vals.toArray++Array.replicate (fn.ntmps-vals.toArray.size) undef).size=fn.ntmps:=by simp;omega
 have hst:St fn.ntmps w.heap.size Z G FP [] (T0 args) H { tmps:=vals.toArray++Array.replicate (fn.ntmps-vals.toArray.size) undef,defers:=[] } w :=
  ⟨hi,hsz,T0_spec fn.ntmps ha,rfl,by simp,by simp⟩
 have hlenG:H.length=G.length:=hi.len.symm
 refine wpIn_mono (h none 0 w.heap.size Z G FP [] _ w ⟨Nat.le_refl _,by simp⟩ (by omega) hst) ?_
 rintro e a' w' ⟨T',H',Z',G',FP',ds',hend,hs',hG',hE'⟩
 have he:e=.normal∨e=.ret:=by cases e <;> simp[endQ] at hend <;> simp
 have hend' : endP H.length Q (packV H.length (retV res T') H'):=by rcases he with rfl | rfl <;> exact hend
 obtain ⟨hnm,hQ⟩:=hend'
 have goal:LeavesInM Fence.wide 0 P fn a'.tmps (Post Z G FP H w Q) a'.defers .returning w':=by
  rw[hs'.defers]
  refine leaves_marks (ro:=none) ds' w' hs'.dsn (fun d hd=>(hs'.dsat d hd).2.1) ?_
  intro w2 ho ht hout hsz2 hk
  have hkeep:∀b,(Z' b∨∃id,b∈FP' id)→w2.heap[b]?=w'.heap[b]?:=by
   intro b hb
   refine hk b fun hc=>?_
   obtain ⟨_,_,h3,h4⟩:=hs'.dsat b hc
   rcases hb with hb | ⟨id,hb⟩
   ·exact h3 hb
   ·exact h4 id hb
  have hi2:HInv Z' G' FP' H' w2:=hs'.inv.keep (by omega) hkeep
  obtain ⟨v,hrun,hv⟩:=run_retV (P:=P) (w:=w2) hres hrlt (fun i hi'=>RV.nil_keep (fun b hb=>hkeep b (.inl hb)) (fun _ h=>h) (GLe.refl _) (hs'.tmps i hi'))
  refine ⟨v,hrun,?_⟩
  obtain ⟨G3,FP3,fr,hp,hrv⟩:=packV_spec (L:=H.length) (retV res T') G' FP' H' v hi2 hv
  have hL3:H.length≤G3.length:=by have:=hp.le.len;have:=hG'.len;omega
  have i4:=hp.inv.trunc H.length hnm
  have hE2:Evo Z FP w Z' FP' w2:=by
   refine ⟨ho.trans hE'.os,ht.trans hE'.tape,hout.trans hE'.output,by rw[hsz2];exact hE'.size,fun b hb hf=>?_,hE'.zle,hE'.znew,hE'.fnew⟩
   rw[hk b (fun hc=>by have:=(hs'.dsat b hc).1;omega)]
   exact hE'.keep b hb hf
  refine ⟨v,_,_,Z',G3.take H.length,_,fr,rfl,hQ,?_,i4,hrv,hp.nodup,fun b hb=>?_,fun b hb=>?_,?_,?_⟩
  ·rw[List.length_take,←hp.inv.len];omega
  ·obtain ⟨⟨id,h1⟩,h2⟩:=hp.fr b hb
   refine ⟨hi2.zfp id b h1,hi2.flt id b h1,fun j hj=>?_⟩
   split at hj
   ·exact h2 j hj
   ·simp at hj
  ·obtain ⟨⟨id,h1⟩,h2⟩:=hp.fr b hb
   exact hE2.fnew id b h1
  ·refine ⟨by simp;omega,fun id hid=>?_⟩
   have hid' : id<H.length:=by omega
   rw[take_get hid']
   have hG3:GLt H.length G' G3:=GLt.of hG'.len hp.le
   exact (hG'.trans hG3).at_ id hid'
  ·refine ⟨hE2.os,hE2.tape,hE2.output,hE2.size,hE2.keep,hE2.zle,hE2.znew,fun id b hb=>?_⟩
   split at hb
   ·exact hE2.fnew id b (hp.fp id b hb)
   ·simp at hb
 rcases he with rfl | rfl
 ·exact goal
 ·exact goal
end
end Go.Proofs.YtmapdjdnnhlpiaaGreatDoor
namespace Go.Proofs.YtmapdjdnnhlpiaaGreatDoor
open Go.RowKit
def methodFn (P:Program) (t:TypeId) (name:String):Option Nat :=
 match P.info? t,P.underlying t with
 | some i,some d =>
  match i.methods.find? (·.name == name) with
  | some m =>
   match m.path.toList,m.func with
   | [],some (f,ptr)=>if (match d with | .pointer _=>ptr | _=>!ptr)=true then some f else none
   | _,_=>none
  | none=>none
 | _,_=>none
theorem run_method {P:Program} {t:TypeId} {name:String} {f:Nat} {w:World} (v:Value) (h:methodFn P t name=some f):(method (P.types.size+Made.depth) t v name).run P w=.ok (f,v) w:=by
 unfold methodFn at h
 split at h
 ·rename_i i d hi hd
  split at h
  ·rename_i m hm
   split at h
   ·rename_i f' ptr hp hf
    obtain ⟨k,hk⟩:∃k,P.types.size+Made.depth=k+1:=⟨P.types.size+(Made.depth-1),by simp[Made.depth]⟩
    rw[hk]
    simp only[method,typeInfo,Sem.run_bind,run_program,Result.andThen_ok,hi,hm,hp,hf,follow,Sem.run_pure,receiverAt,run_underlying hd]
    cases d <;> cases ptr <;> simp at h <;> subst h <;> simp[Place.get]
   ·cases h
  ·cases h
 ·cases h
section
variable {P:Program} {N L:Nat} {T:Nat→HV} {H:Heap} {K:KT}
theorem HO_invoke {o:Oper} {rv:Operand} {name:String} {args:Array Operand} {tys:Array TypeId} {t:TypeId} {x:HV} {fid:Nat} {K:(Nat→HV)→Heap→Prop} {Q:HV→Heap→Prop}
  (ho:o.op=.call { callee:=.invoke rv name,args:=args,argTypes:=tys }) (hok:operOk N o=true) (hf:hev T rv=.ic t x) (hm:methodFn P t name=some fid)
  (hc:HCalls P fid H (x::args.toList.map (hev T)) Q) (hK:∀r H',Q r H'→H'.length=H.length→K (updO T o.dst (nameV r H').1) (nameV r H').2):HO P N L o T H K:=by
 intro ro n B Z G FP ds a w hB hL hs next QQ hn
 refine ⟨fun _ _=>trivial,?_⟩
 rw[semAt_plain _ _ _ (by rw[ho];intro c;simp)]
 have hfv:=hs.hev rv (opds_mem hok (by simp[ho,Op.operands,Call.operands]))
 rw[hf] at hfv
 simp only[RV] at hfv
 obtain ⟨_,z,hfe,hcl⟩:=hfv
 have hargs:args.toList.all (opdOk N)=true:=by
  rw[List.all_eq_true]
  intro x hx
  exact opds_mem hok (by simp[ho,Op.operands,Call.operands];exact .inr (by simpa using hx))
 have hal:=RL_evals hs args.toList hargs
 have hvals:RL Z G w (x::args.toList.map (hev T)) (z::args.toList.map a.eval) []:=by
  simp only[RL]
  exact ⟨_,_,[],[],rfl,rfl,hcl,hal⟩
 have hrun:(execOp a.eval o).run P w=.ok (.enter fid (z::args.toList.map a.eval).toArray) w:=by
  have e:#[z]++(#[Value.iface t z]++args.map a.eval).extract 1 (#[Value.iface t z]++args.map a.eval).size=(z::args.toList.map a.eval).toArray:=by
   apply Array.ext';simp[List.take_of_length_le]
  simp only[execOp,ho,resolve,hfe,Sem.run_bind,Sem.run_pure,Result.andThen_ok,invoke]
  have e0:(#[Value.iface t z]++args.map a.eval)[0]?=some (Value.iface t z):=by rw[Array.getElem?_append_left (by simp)];rfl
  rw[e0]
  simp only[callMethod,Sem.run_bind,run_program,Result.andThen_ok,run_method z hm,e]
  exact hc.1 _ _
 rw[hrun,Oper.uponIn_enter]
 refine ⟨fun h=>by cases ro <;> simp[Wd,Fence.wide] at h,callsIn_wd (Calls.mono (hc.2 Z G FP w _ hs.inv hvals) ?_)⟩
 rintro e w' ⟨v,r,H',Z',G',FP',fr,rfl,hQ,hlen,hi',hr,hnd,hfr1,hfr2,hG,hE⟩
 obtain ⟨G2,FP2,hnm,hrv⟩:=nameV_spec r G' FP' H' v fr hi' hr hnd hfr1
 have hE2:Evo Z FP w Z' FP2 w':=by
  refine ⟨hE.os,hE.tape,hE.output,hE.size,hE.keep,hE.zle,hE.znew,fun id b hb=>?_⟩
  rcases hnm.fp id b hb with h | ⟨id',h⟩
  ·exact hfr2 b h
  ·exact hE.fnew id' b h
 refine hn _ _ ⟨_,_,Z',G2,FP2,hK r H' hQ hlen,(hs.evo hnm.inv (hG.trans hnm.le) hE2).put hrv o.dst ?_,GLt.of hL (hG.trans hnm.le),hE2⟩
 intro i hi
 have:=hok
 simp only[operOk,dstOk,hi,Bool.and_eq_true,decide_eq_true_eq] at this
 exact this.1
def hmm (b:Bool) (x y:HV) (K:HV→Prop):Prop :=
 match x,y with
 | .v (.int k x),.v (.int _ y)=>K (.v (.int k (if b=true then (if y > x then y else x) else (if y<x then y else x))))
 | _,_=>False
theorem HR_max {o:Oper} {x y:Operand} {t u:TypeId} (ho:o.op=.call { callee:=.builtin .max,args:=#[x,y],argTypes:=#[t,u] }) (hok:operOk N o=true) (h:hmm true (hev T x) (hev T y) (fun v=>K v H)):HQ P N o T H K :=
 fun B Z G FP ds a w hs=>by
  have hx:=hs.hev x (opds_mem hok (by simp[ho,Op.operands,Call.operands]))
  have hy:=hs.hev y (opds_mem hok (by simp[ho,Op.operands,Call.operands]))
  unfold hmm at h
  split at h
  ·rename_i k x' k' y' e1 e2
   rw[e1] at hx;rw[e2] at hy
   refine ⟨_,_,?_,h,by simp[RV];rfl⟩
   simp[execOp,ho,resolve,invoke,builtin,Builtin.max_,RV_v hx,RV_v hy,List.foldlM,Builtin.max2]
  ·exact h.elim
theorem HR_min {o:Oper} {x y:Operand} {t u:TypeId} (ho:o.op=.call { callee:=.builtin .min,args:=#[x,y],argTypes:=#[t,u] }) (hok:operOk N o=true) (h:hmm false (hev T x) (hev T y) (fun v=>K v H)):HQ P N o T H K :=
 fun B Z G FP ds a w hs=>by
  have hx:=hs.hev x (opds_mem hok (by simp[ho,Op.operands,Call.operands]))
  have hy:=hs.hev y (opds_mem hok (by simp[ho,Op.operands,Call.operands]))
  unfold hmm at h
  split at h
  ·rename_i k x' k' y' e1 e2
   rw[e1] at hx;rw[e2] at hy
   refine ⟨_,_,?_,h,by simp[RV];rfl⟩
   simp[execOp,ho,resolve,invoke,builtin,Builtin.min_,RV_v hx,RV_v hy,List.foldlM,Builtin.min2]
  ·exact h.elim
end
section
variable {Z Z' : Nat→Prop} {G:List (Option OG)} {FP:Nat→List Nat} {H:Heap} {w:World}
theorem HInv.zmore (h:HInv Z G FP H w) (hz:∀b,Z b→Z' b) (hlt:∀b,Z' b→b<w.heap.size) (hfp:∀id b,b∈FP id→¬Z' b):HInv Z' G FP H w:=by
 refine ⟨h.len,h.dead,h.nofp,fun id o ho=>?_,h.nodup,h.disj,hlt,h.flt,hfp,h.glob.keep hz (fun _ _=>rfl)⟩
 obtain ⟨g,hg,hob⟩:=h.live id o ho
 exact ⟨g,hg,hob.keep (fun _ _=>rfl) hz (GLe.refl _) (fun _ _=>rfl)⟩
def Zid (Z:Nat→Prop) (FP:Nat→List Nat) (id:Nat):Nat→Prop:=fun b=>Z b∨b∈FP id
theorem HInv.freeze (h:HInv Z G FP H w) (id:Nat):HInv (Zid Z FP id) (G.set id none) (fun j=>if j=id then [] else FP j) (H.set id none) w:=by
 refine (h.kill id).zmore (fun b hb=>.inl hb) (fun b hb=>?_) (fun j b hj hz=>?_)
 ·rcases hb with hb | hb
  ·exact h.zlt b hb
  ·exact h.flt id b hb
 ·by_cases e:j=id
  ·simp[e] at hj
  ·simp only[if_neg e] at hj
   rcases hz with hz | hz
   ·exact h.zfp j b hj hz
   ·exact e (h.disj j id b hj hz)
theorem evo_freeze (id:Nat):Evo Z FP w (Zid Z FP id) (fun j=>if j=id then [] else FP j) w:=by
 refine ⟨rfl,rfl,rfl,Nat.le_refl _,fun _ _ _=>rfl,fun _ h=>.inl h,fun b hb=>?_,fun j b hb=>?_⟩
 ·rcases hb with hb | hb
  ·exact .inl hb
  ·exact .inr (.inr ⟨id,hb⟩)
 ·by_cases e:j=id
  ·simp[e] at hb
  ·simp only[if_neg e] at hb;exact .inr ⟨j,hb⟩
theorem RC_single {b:Nat}:∀(l:List HV) (k:Nat),RC Z G w l b k []→RR Z G w (l.map fun c=>[c]) b k []
 | [],k,_=>by simp[RR]
 | c::t,k,h=>by
  simp only[RC] at h
  obtain ⟨y,f1,f2,hf,h1,h2,h3,h4⟩:=h
  obtain ⟨rfl,rfl⟩:=List.append_eq_nil_iff.1 hf.symm
  simp only[List.map_cons,RR,RC,List.length_cons,List.length_nil]
  exact ⟨[],[],rfl,⟨y,[],[],rfl,h1,h2,h3,rfl⟩,RC_single t (k+1) h4⟩
end
section
variable {P:Program} {N L:Nat} {T:Nat→HV} {H:Heap} {K:KT}
def hbytes (P:Program) (H:Heap) (src dst:TypeId) (x:HV) (K:KT):Prop :=
 match x with
 | .v (.string s) =>
  match elemTI P dst 3 with
  | some (_,e,_)=>kindIs P src 4=true∧intTy P e=some .u8∧s.size≤140737488355328∧K (.sl ((bl s).map byteRow)) H
  | none=>False
 | _=>False
theorem RR_bytes {Z:Nat→Prop} {w:World} {b:Nat}:∀(l:List UInt8) (k:Nat),(∀j (h:j<l.length),w.cell? ⟨b,k+j,none⟩=some (.int .u8 (l[j].toNat:Int)))→RR Z [] w (l.map byteRow) b k []
 | [],k,_=>by simp[RR]
 | c::t,k,h=>by
  simp only[List.map_cons,RR,byteRow,RC,List.length_cons,List.length_nil]
  refine ⟨[],[],rfl,⟨_,[],[],rfl,by simpa using h 0 (by simp),rfl,by simp[RV],rfl⟩,RR_bytes t (k+1) fun j hj=>?_⟩
  have:=h (j+1) (by simp;omega)
  simp only[List.getElem_cons_succ] at this
  rw[←this];congr 2;omega
theorem HR_bytes {o:Oper} {src dst:TypeId} {x:Operand} (ho:o.op=.convert src dst x) (hok:operOk N o=true) (h:hbytes P H src dst (hev T x) K):HR P N o T H K:=by
 intro B Z G FP ds a w hs
 have hx:=hs.hev x (opds_mem hok (by simp[ho,Op.operands]))
 unfold hbytes at h
 split at h
 ·rename_i s e
  rw[e] at hx
  split at h
  ·rename_i x0 e0 te he
   obtain ⟨h1,h2,h3,hK⟩:=h
   obtain ⟨hs1,hs2⟩:=elem_slice he
   have hrun:=Lib.run_convert_string_bytes (P:=P) w src dst e0 s (kind_string h1) hs1 (intTy_spec h2)
   have hsz:=Lib.bytesWorld_size w e0 s
   have hold:=Lib.bytesWorld_at_old w e0 s
   let Z' : Nat→Prop:=fun b=>Z b∨b=w.heap.size
   have hi1:HInv Z G FP H (Lib.bytesWorld w e0 s):=hs.inv.keep (by omega) (fun b hb=>hold b (by
    rcases hb with hb | ⟨id,hb⟩
    ·exact hs.inv.zlt b hb
    ·exact hs.inv.flt id b hb))
   have hi2:HInv Z' G FP H (Lib.bytesWorld w e0 s):=hi1.zmore (fun b hb=>.inl hb) (fun b hb=>by
     rcases hb with hb | hb
     ·have:=hs.inv.zlt b hb;omega
     ·omega) (fun id b hb hz=>by
     rcases hz with hz | hz
     ·exact hs.inv.zfp id b hb hz
     ·have:=hs.inv.flt id b hb;omega)
   have hcap:=grownCap_ge w s.size 0 e0
   have hcm:=grownCap_le_maxLen w s.size 0 e0 (by simp only[maxLen];omega)
   refine ⟨.value (.slice (some ⟨w.heap.size,0,none⟩) s.size (grownCap w s.size 0 e0)),_,Lib.bytesWorld w e0 s,_,H,Z',G,FP,?_,.inl rfl,hK,?_,hi2,GLe.refl _,?_⟩
   ·simp only[execOp,ho,Sem.run_bind,RV_v hx,hrun,Result.andThen_ok,Sem.run_pure]
   ·have hlen:((bl s).map byteRow).length=s.size:=by simp only[bl,List.length_map,Array.length_toList];rfl
    simp only[RV]
    refine ⟨trivial,_,_,by rw[hlen],by rw[hlen];exact hcap,hcm,.inr ⟨w.heap.size,0,rfl,.inr rfl,?_,?_⟩⟩
    ·refine uni_len (sz:=1) fun r hr=>?_
     obtain ⟨c,_,rfl⟩:=List.mem_map.1 hr
     rfl
    ·refine RR_bytes _ _ fun j hj=>?_
     have hj' : j<s.size:=hj
     have:=Lib.bytesWorld_cell w e0 s j hj'
     rw[Nat.zero_add,this]
     have e2:s.data.toList.getD j 0=(bl s)[j]:=by
      show (bl s).getD j 0=_
      rw[List.getD_eq_getElem?_getD,List.getElem?_eq_getElem hj];rfl
     rw[e2]
     rfl
   ·refine ⟨?_,?_,?_,by omega,fun b hb _=>hold b hb,fun _ h=>.inl h,fun b hb=>?_,fun id b hb=>.inr ⟨id,hb⟩⟩
    ·simp[Lib.bytesWorld,World.freeze,World.alloc,World.drew,-World.alloc_eq,-World.drew_eq]
    ·simp[Lib.bytesWorld,World.freeze,World.alloc,World.drew,-World.alloc_eq,-World.drew_eq]
    ·simp[Lib.bytesWorld,World.freeze,World.alloc,World.drew,-World.alloc_eq,-World.drew_eq]
    ·rcases hb with hb | hb
     ·exact .inl hb
     ·exact .inr (.inl (by omega))
  ·exact h.elim
 ·exact h.elim
def arrTI (P:Program) (t:TypeId):Option Nat :=
 match elemTI P t 2 with
 | some (x,_,e)=>if e.size=1 then some x.num else none
 | none=>none
def hcutA (P:Program) (T:Nat→HV) (H:Heap) (t:TypeId) (x:HV) (lo:Operand) (K:KT):Prop :=
 match x with
 | .pt id n 0 0 =>
  match arrTI P t,hev T lo with
  | some m,.v (.int _ z) =>
   match H[id]? with
   | some (some ob) =>
    match ob.rows with
    | [row]=>n=1∧row.length=m∧m≤140737488355328∧0≤z∧z≤(m:Int)∧K (.sl (((fzoL row).map fun c=>[c]).drop z.toNat)) (H.set id none)
    | _=>False
   | _=>False
  | _,_=>False
 | _=>False
theorem HR_cutA {o:Oper} {t:TypeId} {x lo:Operand} (ho:o.op=.slice t x (some lo) none none) (hok:operOk N o=true) (h:hcutA P T H t (hev T x) lo K):HR P N o T H K:=by
 intro B Z G FP ds a w hs
 have hx:=hs.hev x (opds_mem hok (by simp[ho,Op.operands]))
 have hl:=hs.hev lo (opds_mem hok (by simp[ho,Op.operands]))
 unfold hcutA at h
 split at h
 ·rename_i id n ex
  rw[ex] at hx
  split at h
  ·rename_i m k z hm hz
   rw[hz] at hl
   split at h
   ·rename_i ob hob
    split at h
    ·rename_i row hrow
     obtain ⟨h1,h2,h3,h4,h5,hK⟩:=h
     unfold arrTI at hm
     split at hm
     ·rename_i tx te e he
      split at hm
      ·rename_i he1
       cases hm
       obtain ⟨hs1,hs2⟩:=elem_array he
       obtain ⟨g,b,cells,f,hg,hOB,hb,hf,hh,hc,hcap,hml,hrr,hy,hrl⟩:=pt_at hs.inv hob (by rw[hrow];exact h1) (show ob.rows[0]?=some row by rw[hrow];rfl) hx
       have hi2:=hs.inv.freeze id
       have hbd:=cut_bounds (P:=P) (isS:=false) (len:=tx.num) (cap:=tx.num) (li:=z) (hi':=(tx.num:Int)) hs (lo:=some lo) (hi:=none) (by simp[cutLo,hz]) rfl (fun y hy=>opds_mem hok (by cases hy;simp[ho,Op.operands])) (by simp) h4 h5 (Int.le_refl _)
       have hrun:(execOp a.eval o).run P w=.ok (.value (.slice (some (if tx.num=z.toNat then ⟨b,0,none⟩ else (⟨b,0,none⟩:Addr).add z.toNat)) (tx.num-z.toNat) (tx.num-z.toNat))) w:=by
        simp only[Option.map_some,Option.map_none,RV_v hl,Int.toNat_natCast] at hbd
        simp only[execOp,ho,hy,RV_v hl,Instr.sliceAt,Option.map_some,Option.map_none,Sem.run_bind,run_underlying hs1,Result.andThen_ok,Instr.sureAddr,Sem.run_pure,hbd,run_sizeOf hs2,he1,Nat.mul_one,Nat.zero_mul,Nat.add_zero]
       have hlz:z.toNat≤tx.num:=by omega
       have hrlen:(((fzoL row).map fun c=>[c]).drop z.toNat).length=tx.num-z.toNat:=by rw[List.length_drop,List.length_map,fzoL_length,h2]
       have hRC:RC (Zid Z FP id) [] w (fzoL row) b 0 []:=by
        rw[hrow] at hrr
        simp only[RR] at hrr
        obtain ⟨f1,f2,hff,hrc,_⟩:=hrr
        exact fzoC_spec row _ b 0 f1 ⟨fun c hc=>.inl hc,fun c hc=>.inr (by rw[hf,hff];simp[hc])⟩ hrc
       refine ⟨_,_,w,_,_,Zid Z FP id,_,_,hrun,.inl rfl,hK,?_,hi2,GLe.kill id,evo_freeze id⟩
       simp only[RV]
       refine ⟨trivial,_,_,by rw[hrlen],by rw[hrlen];omega,by simp only[maxLen];omega,?_⟩
       by_cases hz0:tx.num=z.toNat
       ·left
        apply List.eq_nil_of_length_eq_zero
        rw[hrlen];omega
       ·right
        refine ⟨b,z.toNat,by rw[if_neg hz0];simp[add_lit],.inr (by rw[hf];simp),?_,?_⟩
        ·refine uni_len (sz:=1) fun r hr=>?_
         obtain ⟨c,_,rfl⟩:=List.mem_map.1 (List.mem_of_mem_drop hr)
         rfl
        ·have hd:=RR_drop (sz:=1) ((fzoL row).map fun c=>[c]) 0 z.toNat [] (fun r hr=>by obtain ⟨c,_,rfl⟩:=List.mem_map.1 hr;rfl) (RC_single _ _ hRC)
         obtain ⟨f',hd1,hd2⟩:=hd
         have:f'=[]:=List.eq_nil_of_sublist_nil hd2
         subst this
         simpa using hd1
      ·cases hm
     ·cases hm
    ·exact h.elim
   ·exact h.elim
  ·exact h.elim
 ·exact h.elim
end
section
variable {Z Z' : Nat→Prop} {w w' : World}
mutual
theorem RV_nm:∀(h:HV) (G:List (Option OG)) (y:Value) (fr:List Nat),RV Z G w h y fr→nm G.length h=true
 | .hd ..,G,y,fr,h=>by simp only[RV] at h;simpa [nm] using h.2.2.1
 | .pt ..,G,y,fr,h=>by simp only[RV] at h;simpa [nm] using h.2.2.1
 | .mp _,G,y,fr,h=>by simp only[RV] at h;simpa [nm] using h.2.2.1
 | .yl _,G,y,fr,h=>by simp only[RV] at h;simpa [nm] using h.2.1
 | .ag cs,G,y,fr,h=>by simp only[RV] at h;obtain ⟨ys,_,h⟩:=h;simpa only[nm] using RL_nm cs G _ _ h
 | .tu cs,G,y,fr,h=>by simp only[RV] at h;obtain ⟨ys,_,h⟩:=h;simpa only[nm] using RL_nm cs G _ _ h
 | .fn _ cs,G,y,fr,h=>by simp only[RV] at h;obtain ⟨ys,_,h⟩:=h;simpa only[nm] using RL_nm cs G _ _ h
 | .ic _ x,G,y,fr,h=>by simp only[RV] at h;obtain ⟨_,z,_,h⟩:=h;simpa only[nm] using RV_nm x G z _ h
 | .any,_,_,_,_=>rfl
 | .v _,_,_,_,_=>rfl
 | .sl _,_,_,_,_=>rfl
 | .ow ..,_,_,_,_=>rfl
 | .fp ..,_,_,_,_=>rfl
 | .bx ..,_,_,_,_=>rfl
 | .ob _,_,_,_,_=>rfl
 | .om ..,_,_,_,_=>rfl
 | .gv _,_,_,_,_=>rfl
theorem RL_nm:∀(l:List HV) (G:List (Option OG)) (ys:List Value) (fr:List Nat),RL Z G w l ys fr→nmL G.length l=true
 | [],_,_,_,_=>rfl
 | h::t,G,ys,fr,hr=>by
  simp only[RL] at hr
  obtain ⟨y,ys',f1,f2,_,_,h1,h2⟩:=hr
  simp only[nmL,RV_nm h G y f1 h1,RL_nm t G ys' f2 h2,Bool.and_self]
end
theorem RC_nm:∀(l:List HV) (G:List (Option OG)) (b k:Nat) (fr:List Nat),RC Z G w l b k fr→nmL G.length l=true
 | [],_,_,_,_,_=>rfl
 | h::t,G,b,k,fr,hr=>by
  simp only[RC] at hr
  obtain ⟨y,f1,f2,_,_,_,h1,h2⟩:=hr
  simp only[nmL,RV_nm h G y f1 h1,RC_nm t G b (k+1) f2 h2,Bool.and_self]
theorem RR_nm:∀(l:List (List HV)) (G:List (Option OG)) (b k:Nat) (fr:List Nat),RR Z G w l b k fr→nmR G.length l=true
 | [],_,_,_,_,_=>rfl
 | r::t,G,b,k,fr,hr=>by
  simp only[RR] at hr
  obtain ⟨f1,f2,_,h1,h2⟩:=hr
  simp only[nmR,RC_nm r G b k f1 h1,RR_nm t G b _ f2 h2,Bool.and_self]
theorem OB.nm {G:List (Option OG)} {o:HObj} {g:OG} {fp:List Nat} (h:OB Z G w o g fp):nmR G.length o.rows=true:=by
 rcases h.at_ with ⟨_,e,_⟩ | ⟨b,cells,f,_,_,_,_,_,_,e⟩ | ⟨x,hs,obj,f,_,e,_,_,_,e'⟩
 ·rw[e];rfl
 ·exact RR_nm _ _ _ _ _ e
 ·rw[e]
  simp only[nmR,nmL,Go.Proofs.YtmapdjdnnhlpiaaGreatDoor.nm,RL_nm _ _ _ _ e',Bool.and_self]
theorem HInv.nm {G:List (Option OG)} {FP:Nat→List Nat} {H:Heap} (h:HInv Z G FP H w):nmH H.length H=true:=by
 unfold nmH
 rw[List.take_length,List.all_eq_true]
 intro o ho
 cases o with
 | none=>rfl
 | some ob =>
  obtain ⟨i,hi⟩:=List.mem_iff_getElem?.1 ho
  obtain ⟨g,_,hob⟩:=h.live i ob hi
  have:=hob.nm
  rw[h.len] at this
  exact this
end
end Go.Proofs.YtmapdjdnnhlpiaaGreatDoor
namespace Go.Proofs.YtmapdjdnnhlpiaaGreatDoor
open Go.RowKit
abbrev Res:=Option (Prop×HV×Heap)
def onR (r:Res) (K:KT):Prop :=
 match r with
 | some (p,x,H)=>p∧K x H
 | none=>False
def bindO {α:Type} (o:Option α) (f:α→Res):Res :=
 match o with
 | some a=>f a
 | none=>none
theorem bindO_some {α:Type} (a:α) (f:α→Res):bindO (some a) f=f a:=rfl
theorem bindO_none {α:Type} (f:α→Res):bindO none f=none:=rfl
def getO (H:Heap) (id:Nat):Option HObj :=
 match H[id]? with
 | some (some ob)=>some ob
 | _=>none
theorem getO_spec {H:Heap} {id:Nat} {ob:HObj} (h:getO H id=some ob):H[id]?=some (some ob):=by
 unfold getO at h
 split at h
 ·rename_i o ho;cases h;exact ho
 ·cases h
theorem getO_zero (o:Option HObj) (H:Heap):getO (o::H) 0=o:=by cases o <;> rfl
theorem getO_succ (o:Option HObj) (H:Heap) (i:Nat):getO (o::H) (i+1)=getO H i:=by simp[getO]
theorem bindO_spec {α:Type} {o:Option α} {f:α→Res} {K:KT} (h:onR (bindO o f) K):∃a,o=some a∧onR (f a) K:=by
 cases o with
 | none=>exact h.elim
 | some a=>exact ⟨a,rfl,h⟩
def rv (H:Heap) (p:Prop) (x:HV):Res:=some (p,x,H)
def RowsLen (rows:List (List HV)) (n:Nat):Prop:=∀r∈rows,r.length=n
theorem RowsLen_nil {n:Nat}:RowsLen [] n=True:=by simp[RowsLen]
theorem RowsLen_cons {r:List HV} {t:List (List HV)} {n:Nat}:RowsLen (r::t) n=(r.length=n∧RowsLen t n):=by simp[RowsLen]
theorem RowsLen_append {a b:List (List HV)} {n:Nat}:RowsLen (a++b) n=(RowsLen a n∧RowsLen b n):=by
 simp only[RowsLen,List.mem_append,eq_iff_iff]
 exact ⟨fun h=>⟨fun r hr=>h r (.inl hr),fun r hr=>h r (.inr hr)⟩,fun h r hr=>hr.elim (h.1 r) (h.2 r)⟩
def PartsOk (T:Nat→HV) (n:Nat):List (Nat×Operand)→Prop
 | []=>True
 | p::ps=>((cellsH (hev T p.2)).length=n∧(cellsH (hev T p.2)).all c1=true)∧PartsOk T n ps
theorem PartsOk_spec {T:Nat→HV} {n:Nat}:∀{ps:List (Nat×Operand)},PartsOk T n ps→∀p∈ps,(cellsH (hev T p.2)).length=n∧(cellsH (hev T p.2)).all c1=true
 | [],_,p,hp=>by simp at hp
 | q::ps,h,p,hp=>by
  rcases List.mem_cons.1 hp with rfl | hp
  ·exact h.1
  ·exact PartsOk_spec h.2 p hp
def rpick (H:Heap) (c x y:HV):Res :=
 match c with
 | .v (.bool true)=>rv H True x
 | .v (.bool false)=>rv H True y
 | _=>none
def rbin (P:Program) (H:Heap) (op:BinOp) (t:TypeId) (cst:Bool) (a b:HV):Res:=bindO (binRes P op t cst a b) fun v=>rv H True (.v v)
def run1 (H:Heap) (op:UnOp) (x:HV):Res :=
 match op,x with
 | .not,.v (.bool b)=>rv H True (.v (.bool (!b)))
 | .neg,.v (.int k n)=>rv H True (.v (.int k (k.wrap (0-n))))
 | _,_=>none
def rextract (H:Heap) (x:HV) (i:Nat):Res :=
 match x with
 | .tu vs=>bindO vs[i]? fun v=>rv H True v
 | _=>none
def rconv (P:Program) (H:Heap) (src dst:TypeId) (x:HV):Res :=
 match x with
 | .v (.int k n)=>bindO (intTy P src) fun _=>bindO (intTy P dst) fun k'=>rv H True (.v (.int k' (k'.wrap n)))
 | .v (.string s)=>rv H (kindIs P src 4=true∧kindIs P dst 4=true) (.v (.string s))
 | x=>bindO (elemTI P src 3) fun e=>bindO (srcRows H x) fun rows=>bindO (bytesOf rows) fun l=>rv H (intTy P e.2.1=some .u8∧kindIs P dst 4=true) (.v (str l))
def riface (P:Program) (H:Heap) (t:TypeId) (x:HV):Res:=bindO (ti P t) fun y=>rv H (y.kind≠9∧tv x=true) (.ic t x)
def rsure (H:Heap) (x:HV):Res :=
 match x with
 | .fp rows i o=>rv H True (.fp rows i o)
 | .pt id n r o=>rv H (liveAt H (.pt id n r o)=true) (.pt id n r o)
 | .fn f cs=>rv H True (.fn f cs)
 | .ic t y=>rv H True (.ic t y)
 | _=>none
def rfieldAddr (P:Program) (H:Heap) (s:TypeId) (a:HV) (i:Nat):Res:=bindO (fldAt P s i) fun f=>rv H (f.2.size≠0∧liveAt H a=true) (moved a f.1)
def rfield (P:Program) (H:Heap) (s:TypeId) (a:HV) (i:Nat):Res :=
 match a with
 | .ag cs=>bindO (fldAt P s i) fun f=>rv H (okTI f.2=true∧f.1+f.2.size≤cs.length) (mkV f.2 ((cs.drop f.1).take f.2.size))
 | _=>none
def rindexAddr (P:Program) (H:Heap) (t:TypeId) (a i:HV):Res :=
 match a,i with
 | .sl rows,.v (.int _ z)=>bindO (elemTI P t 3) fun e=>rv H (0≤z∧z<(rows.length:Int)∧RowsLen rows e.2.2.size) (.fp rows z.toNat 0)
 | .hd id off len,.v (.int _ z)=>bindO (elemTI P t 3) fun e=>bindO (getO H id) fun ob=>rv H (off+len=ob.rows.length∧ob.sz=e.2.2.size∧0≤z∧z<(len:Int)) (.pt id ob.rows.length (off+z.toNat) 0)
 | .pt id n r o,.v (.int _ z)=>bindO (elemTI P t 2) fun e=>rv H (liveAt H (.pt id n r o)=true∧0≤z∧z<(e.1.num:Int)) (.pt id n r (o+z.toNat*e.2.2.size))
 | .fp rows i o,.v (.int _ z)=>bindO (elemTI P t 2) fun e=>rv H (0≤z∧z<(e.1.num:Int)) (.fp rows i (o+z.toNat*e.2.2.size))
 | _,_=>none
def rindex (P:Program) (H:Heap) (t:TypeId) (a i:HV):Res :=
 match a,i with
 | .v (.string s),.v (.int _ z)=>bindO (bl s)[z.toNat]? fun b=>rv H (kindIs P t 4=true∧0≤z) (.v (.int .u8 (b.toNat:Int)))
 | .ag cs,.v (.int _ z)=>bindO (elemTI P t 2) fun e=>rv H (okTI e.2.2=true∧0≤z∧z<(e.1.num:Int)∧z.toNat*e.2.2.size+e.2.2.size≤cs.length) (mkV e.2.2 ((cs.drop (z.toNat*e.2.2.size)).take e.2.2.size))
 | _,_=>none
def boundV:Option HV→Int→Option Int
 | none,d=>some d
 | some (.v (.int _ z)),_=>some z
 | some _,_=>none
def rcut (P:Program) (H:Heap) (t:TypeId) (x:HV) (lo hi:Option HV):Res :=
 match x with
 | .v (.string s)=>bindO (boundV lo 0) fun l=>bindO (boundV hi (s.size:Int)) fun h=>rv H (kindIs P t 4=true∧0≤l∧l≤h∧h≤(s.size:Int)) (.v (.string (s.extract l.toNat h.toNat)))
 | .sl rows=>bindO (elemTI P t 3) fun e=>bindO (boundV lo 0) fun l=>bindO (boundV hi (rows.length:Int)) fun h=>rv H (RowsLen rows e.2.2.size∧0≤l∧l≤h∧h≤(rows.length:Int)) (.sl ((rows.drop l.toNat).take (h.toNat-l.toNat)))
 | .hd id off len=>bindO (elemTI P t 3) fun e=>bindO (boundV lo 0) fun l=>bindO (boundV hi (len:Int)) fun h=>bindO (getO H id) fun ob =>
   rv H (off+len=ob.rows.length∧ob.sz=e.2.2.size∧0≤l∧l≤h∧h=(len:Int)) (.hd id (off+l.toNat) (len-l.toNat))
 | _=>none
def rlen (P:Program) (H:Heap) (t:TypeId) (x:HV):Res :=
 match x with
 | .v (.string s)=>rv H (kindIs P t 4=true) (.v (.int .i64 (s.size:Int)))
 | .v (.slice none 0 0)=>rv H (kindIs P t 3=true) (.v (.int .i64 0))
 | .sl rows=>rv H (kindIs P t 3=true) (.v (.int .i64 (rows.length:Int)))
 | .hd id off len=>bindO (getO H id) fun ob=>rv H (off+len=ob.rows.length∧kindIs P t 3=true) (.v (.int .i64 (len:Int)))
 | _=>none
def rloadP (x:TI) (H:Heap) (a:HV):Res :=
 match a with
 | .pt id n r o=>bindO (getO H id) fun ob=>bindO ob.rows[r]? fun row=>rv H (n=ob.rows.length∧o+x.size≤ob.sz∧tvs ((row.drop o).take x.size)=true) (mkV x ((row.drop o).take x.size))
 | _=>none
def rload2 (x:TI) (H:Heap) (ob:HObj) (row:List HV) (id n r o:Nat) (closed:Bool):Res :=
 match closed with
 | true=>rv H (okTI x=true∧n=ob.rows.length∧o+x.size≤ob.sz) (mkV x ((row.drop o).take x.size))
 | false=>bindO (if okTI x=true then some () else none) fun _=>rloadP x (gopens H id r o x.size) (.pt id n r o)
def rload1 (x:TI) (H:Heap) (a:HV):Res :=
 match a with
 | .pt id n r o=>bindO (getO H id) fun ob=>bindO ob.rows[r]? fun row=>rload2 x H ob row id n r o (tvs ((row.drop o).take x.size))
 | .fp rows i o=>bindO rows[i]? fun row=>rv H (okTI x=true∧o+x.size≤row.length∧tvs ((row.drop o).take x.size)=true) (mkV x ((row.drop o).take x.size))
 | _=>none
def rload (P:Program) (H:Heap) (t:TypeId) (a:HV):Res:=bindO (ti P t) fun x=>rload1 x H a
def rstore (P:Program) (H:Heap) (t:TypeId) (a v:HV):Res :=
 match a with
 | .pt id n r o=>bindO (ti P t) fun x=>bindO (getO H id) fun ob=>bindO ob.rows[r]? fun row =>
   some (n=ob.rows.length∧(cellsH v).length=x.size∧(cellsH v).all c1=true∧o+x.size≤ob.sz,.any,H.set id (some { ob with rows:=ob.rows.set r (row.take o++cellsH v++row.drop (o+x.size)) }))
 | _=>none
def ralloc (P:Program) (H:Heap) (t:TypeId):Res:=bindO (ti P t) fun x=>bindO (zcells x) fun cs=>some (True,.pt H.length 1 0 0,H++[some ⟨t,x.size,[cs]⟩])
def rbox (P:Program) (H:Heap) (t:TypeId) (v:HV):Res:=some ((cellsH v).all c1=true,.pt H.length 1 0 0,H++[some ⟨t,(cellsH v).length,[cellsH v]⟩])
def rbuild (P:Program) (H:Heap) (t:TypeId) (parts:List (Nat×HV)):Res:=bindO (ti P t) fun x=>bindO (zcells x) fun cs=>bindO (hfill (places P x) cs parts) fun cs' =>
 rv H (x.agg=true∧(x.kind=1→∀f∈x.flds,(ti P f.2).isSome=true)∧(x.kind=2→(ti P x.elem).isSome=true)) (.ag cs')
def rbuildSlice (P:Program) (T:Nat→HV) (H:Heap) (t:TypeId) (len:Nat) (parts:List (Nat×Operand)):Res:=bindO (elemTI P t 3) fun e =>
 some (len=parts.length∧seqParts 0 parts=true∧e.2.2.size≠0∧len*e.2.2.size≤16777216∧(zcells e.2.2).isSome=true∧PartsOk T e.2.2.size parts,
  .hd H.length 0 parts.length,H++[some ⟨e.2.1,e.2.2.size,parts.map fun p=>cellsH (hev T p.2)⟩])
def rmakeSlice (P:Program) (H:Heap) (t:TypeId) (l c:HV):Res :=
 match l,c with
 | .v (.int _ n),.v (.int _ m)=>bindO (elemTI P t 3) fun e=>bindO (zcells e.2.2) fun cs =>
  some (0≤n∧n≤m∧(e.2.2.bytes:Int)*m≤281474976710656∧m≤9223372036854775807,.hd H.length 0 n.toNat,H++[some ⟨e.2.1,e.2.2.size,List.replicate n.toNat cs⟩])
 | _,_=>none
def rappend (P:Program) (H:Heap) (t:TypeId) (s x:HV):Res :=
 match s with
 | .v (.slice none 0 0)=>bindO (elemTI P t 3) fun e=>bindO (srcRows H x) fun new =>
  some (e.2.2.size≠0∧(zcells e.2.2).isSome=true∧tvs new.flatten=true∧RowsLen new e.2.2.size∧new.length≤140737488355328∧new.length*e.2.2.bytes≤140737488355328,.hd H.length 0 new.length,H++[some ⟨e.2.1,e.2.2.size,new⟩])
 | .hd id 0 len=>bindO (elemTI P t 3) fun e=>bindO (srcRows H x) fun new=>bindO (getO H id) fun ob =>
  some (e.2.2.size≠0∧(zcells e.2.2).isSome=true∧tvs new.flatten=true∧RowsLen new e.2.2.size∧len=ob.rows.length∧ob.e=e.2.1∧ob.sz=e.2.2.size∧len+new.length≤140737488355328∧(len+new.length)*e.2.2.bytes≤140737488355328,
   .hd id 0 (len+new.length),H.set id (some { ob with rows:=ob.rows++new }))
 | _=>none
def lookV (es:Array MapEntry) (key z:Value):Option (Value×Bool):=(findV key es.toList 0).map fun r=>((r.map (·.2)).getD z,r.isSome)
def putO (es:Array MapEntry) (c:Nat) (key val:Value):Option HObj:=(findV key es.toList 0).map fun r=>mapObj (putE es c key val r).1 (putE es c key val r).2
def entO (es:Array MapEntry) (c:Nat) (key z:Value):Option (Value×Nat×HObj):=(findV key es.toList 0).map fun r=>((entV es c z r).1,(entV es c z r).2,mapObj (entE es c key z r).1 (entE es c key z r).2)
def stoO (es:Array MapEntry) (c:Nat) (b:Int) (val:Value):Option HObj:=(es.findIdx? fun e=>(e.born:Int) == b).map fun i=>mapObj (es.modify i fun e=>{ e with val:=val }) c
def rmakeMap (H:Heap):Res:=some (True,.mp H.length,H++[some (mapObj #[] 0)])
def rlookup (P:Program) (H:Heap) (t:TypeId) (m k:HV) (ok:Bool):Res :=
 match m with
 | .mp id=>bindO (getO H id) fun ob=>bindO (mapOf ob) fun es=>bindO (mapTI P t) fun ty=>bindO (valOf k) fun key=>bindO (lookV es.1 key ty.2.2) fun r =>
  rv H (keyIs P ty.1 key) (if ok=true then .tu [cHV r.1,.v (.bool r.2)] else cHV r.1)
 | _=>none
def rmapUpdate (P:Program) (H:Heap) (t:TypeId) (m k x:HV):Res :=
 match m with
 | .mp id=>bindO (getO H id) fun ob=>bindO (mapOf ob) fun es=>bindO (mapTI P t) fun ty=>bindO (valOf k) fun key=>bindO (valOf x) fun val=>bindO (putO es.1 es.2 key val) fun o =>
  some (keyIs P ty.1 key∧keq key key=some true,.v undef,H.set id (some o))
 | _=>none
def rmapEntry (P:Program) (H:Heap) (t:TypeId) (m k:HV):Res :=
 match m with
 | .mp id=>bindO (getO H id) fun ob=>bindO (mapOf ob) fun es=>bindO (mapTI P t) fun ty=>bindO (valOf k) fun key=>bindO (entO es.1 es.2 key ty.2.2) fun r =>
  some (keyIs P ty.1 key∧keq key key=some true,.tu [cHV r.1,.v (.int .i64 r.2.1)],H.set id (some r.2.2))
 | _=>none
def rentryStore (H:Heap) (m s x:HV):Res :=
 match m,s with
 | .mp id,.v (.int .i64 b)=>bindO (getO H id) fun ob=>bindO (mapOf ob) fun es=>bindO (valOf x) fun val=>bindO (stoO es.1 es.2 b val) fun o =>
  some (True,.v undef,H.set id (some o))
 | _,_=>none
def rcopy (P:Program) (H:Heap) (t:TypeId) (d x:HV):Res :=
 match d with
 | .hd id 0 len=>bindO (elemTI P t 3) fun e=>bindO (srcRows H x) fun new=>bindO (getO H id) fun ob =>
  some (e.2.2.size≠0∧tvs new.flatten=true∧tvs ob.rows.flatten=true∧RowsLen new e.2.2.size∧len=ob.rows.length∧new.length=len∧ob.e=e.2.1∧ob.sz=e.2.2.size,.v (.int .i64 len),H.set id (some { ob with rows:=new }))
 | _=>none
def rcutT (P:Program) (H:Heap) (t:TypeId) (x h:HV):Res :=
 match x with
 | .hd id 0 len=>bindO (elemTI P t 3) fun e=>bindO (boundV (some h) 0) fun y=>bindO (getO H id) fun ob =>
   some (len=ob.rows.length∧ob.sz=e.2.2.size∧0≤y∧y≤(len:Int),.hd H.length 0 y.toNat,H.set id none++[some { ob with rows:=ob.rows.take y.toNat }])
 | x=>rcut P H t x none (some h)
def rconvA (P:Program) (H:Heap) (src dst:TypeId) (x:HV):Res :=
 match x with
 | .v (.string s)=>match kindIs P dst 3 with
  | true=>bindO (elemTI P dst 3) fun e=>rv H (kindIs P src 4=true∧intTy P e.2.1=some .u8∧s.size≤140737488355328) (.sl ((bl s).map byteRow))
  | false=>rconv P H src dst (.v (.string s))
 | x=>rconv P H src dst x
def oneRow:List (List HV)→Option (List HV)
 | [r]=>some r
 | _=>none
def rcutB (P:Program) (H:Heap) (t:TypeId) (x lo:HV):Res :=
 match x with
 | .pt id n 0 0=>bindO (arrTI P t) fun m=>bindO (boundV (some lo) 0) fun z=>bindO (getO H id) fun ob=>bindO (oneRow ob.rows) fun row =>
   some (n=1∧row.length=m∧m≤140737488355328∧0≤z∧z≤(m:Int),.sl (((fzoL row).map fun c=>[c]).drop z.toNat),H.set id none)
 | x=>rcut P H t x (some lo) none
def rmm (b:Bool) (H:Heap) (x y:HV):Res :=
 match x,y with
 | .v (.int k x),.v (.int _ y)=>rv H True (.v (.int k (if b=true then (if y > x then y else x) else (if y<x then y else x))))
 | _,_=>none
def rop (P:Program) (T:Nat→HV) (H:Heap):Op→Res
 | .move x=>rv H True (hev T x)
 | .assign x=>rv H True (hev T x)
 | .pick c x y=>rpick H (hev T c) (hev T x) (hev T y)
 | .alloc t=>ralloc P H t
 | .box t x=>rbox P H t (hev T x)
 | .build t parts=>rbuild P H t (parts.toList.map fun p=>(p.1,hev T p.2))
 | .buildSlice t len parts=>rbuildSlice P T H t len parts.toList
 | .load t a=>rload P H t (hev T a)
 | .store t a x=>rstore P H t (hev T a) (hev T x)
 | .nilCheck x=>rsure H (hev T x)
 | .binOp op t x y _=>rbin P H op t (isC x || isC y) (hev T x) (hev T y)
 | .unOp op _ x=>run1 H op (hev T x)
 | .convert src dst x=>rconvA P H src dst (hev T x)
 | .makeInterface t x=>riface P H t (hev T x)
 | .makeFunc (.func f) first cs=>match first with
  | ⟨[]⟩=>rv H (f<4294967296) (.fn f (cs.toList.map (hev T)))
  | ⟨[x]⟩=>rv H True (.fn (f+4294967296) (hev T x::cs.toList.map (hev T)))
  | _=>none
 | .makeSlice t l c=>rmakeSlice P H t (hev T l) (hev T c)
 | .slice t x none (some hi) none=>rcutT P H t (hev T x) (hev T hi)
 | .slice t x (some lo) none none=>rcutB P H t (hev T x) (hev T lo)
 | .slice t x lo hi none=>rcut P H t (hev T x) (lo.map (hev T)) (hi.map (hev T))
 | .fieldAddr s a i=>rfieldAddr P H s (hev T a) i
 | .field s a i=>rfield P H s (hev T a) i
 | .indexAddr t a i=>rindexAddr P H t (hev T a) (hev T i)
 | .index t a i=>rindex P H t (hev T a) (hev T i)
 | .extract x i=>rextract H (hev T x) i
 | .makeMap _ none=>rmakeMap H
 | .lookup t m k ok=>rlookup P H t (hev T m) (hev T k) ok
 | .mapUpdate t m k x=>rmapUpdate P H t (hev T m) (hev T k) (hev T x)
 | .mapEntry t m k=>rmapEntry P H t (hev T m) (hev T k)
 | .entryStore _ m s x=>rentryStore H (hev T m) (hev T s) (hev T x)
 | .call { callee:=.builtin .len,args:=⟨[x]⟩,argTypes:=⟨[t]⟩ }=>rlen P H t (hev T x)
 | .call { callee:=.builtin .append,args:=⟨[s,x]⟩,argTypes:=⟨[t,u]⟩ }=>if t=u then rappend P H t (hev T s) (hev T x) else none
 | .call { callee:=.builtin .copy,args:=⟨[d,x]⟩,argTypes:=⟨[t,_]⟩ }=>rcopy P H t (hev T d) (hev T x)
 | .call { callee:=.builtin .max,args:=⟨[x,y]⟩,argTypes:=⟨[_,_]⟩ }=>rmm true H (hev T x) (hev T y)
 | .call { callee:=.builtin .min,args:=⟨[x,y]⟩,argTypes:=⟨[_,_]⟩ }=>rmm false H (hev T x) (hev T y)
 | _=>none
def rloadQ (x:TI) (H:Heap) (a:HV):Res :=
 match a with
 | .pt id n r o=>bindO (getO H id) fun ob=>bindO ob.rows[r]? fun row=>rv H (okTI x=true∧n=ob.rows.length∧o+x.size≤ob.sz∧tvs ((row.drop o).take x.size)=true) (mkV x ((row.drop o).take x.size))
 | .fp rows i o=>bindO rows[i]? fun row=>rv H (okTI x=true∧o+x.size≤row.length∧tvs ((row.drop o).take x.size)=true) (mkV x ((row.drop o).take x.size))
 | _=>none
def ropQ (P:Program) (T:Nat→HV) (H:Heap):Op→Res
 | .move x=>rv H True (hev T x)
 | .assign x=>rv H True (hev T x)
 | .pick c x y=>rpick H (hev T c) (hev T x) (hev T y)
 | .build t parts=>rbuild P H t (parts.toList.map fun p=>(p.1,hev T p.2))
 | .load t a=>bindO (ti P t) fun x=>rloadQ x H (hev T a)
 | .nilCheck x=>rsure H (hev T x)
 | .binOp op t x y _=>rbin P H op t (isC x || isC y) (hev T x) (hev T y)
 | .unOp op _ x=>run1 H op (hev T x)
 | .convert src dst x=>rconv P H src dst (hev T x)
 | .makeInterface t x=>riface P H t (hev T x)
 | .makeFunc (.func f) first cs=>match first with
  | ⟨[]⟩=>rv H (f<4294967296) (.fn f (cs.toList.map (hev T)))
  | ⟨[x]⟩=>rv H True (.fn (f+4294967296) (hev T x::cs.toList.map (hev T)))
  | _=>none
 | .slice t x lo hi none=>rcut P H t (hev T x) (lo.map (hev T)) (hi.map (hev T))
 | .fieldAddr s a i=>rfieldAddr P H s (hev T a) i
 | .field s a i=>rfield P H s (hev T a) i
 | .indexAddr t a i=>rindexAddr P H t (hev T a) (hev T i)
 | .index t a i=>rindex P H t (hev T a) (hev T i)
 | .extract x i=>rextract H (hev T x) i
 | .call { callee:=.builtin .len,args:=⟨[x]⟩,argTypes:=⟨[t]⟩ }=>rlen P H t (hev T x)
 | .call { callee:=.builtin .max,args:=⟨[x,y]⟩,argTypes:=⟨[_,_]⟩ }=>rmm true H (hev T x) (hev T y)
 | .call { callee:=.builtin .min,args:=⟨[x,y]⟩,argTypes:=⟨[_,_]⟩ }=>rmm false H (hev T x) (hev T y)
 | _=>none
section
variable {P:Program} {N:Nat} {T:Nat→HV} {H:Heap} {K:KT}
theorem HQ_rcut {o:Oper} {t:TypeId} {x:Operand} {lo hi:Option Operand} (ho:o.op=.slice t x lo hi none) (hok:operOk N o=true) (h:onR (rcut P H t (hev T x) (lo.map (hev T)) (hi.map (hev T))) K):HQ P N o T H K:=by
 refine HR_cut ho hok ?_
 have hlo:∀l,boundV (lo.map (hev T)) 0=some l→cutLo T lo=some l:=by
  intro l hl
  cases lo with
  | none=>simpa [boundV,cutLo] using hl
  | some x =>
   simp only[Option.map_some] at hl
   unfold boundV at hl
   unfold cutLo
   split at hl
   ·rename_i e;cases e
   ·rename_i k z d e
    simp only[Option.some.injEq] at e
    simp only[e];exact hl
   ·cases hl
 have hhi:∀(n:Nat) h,boundV (hi.map (hev T)) (n:Int)=some h→cutHi T n hi=some h:=by
  intro n l hl
  cases hi with
  | none=>simpa [boundV,cutHi] using hl
  | some x =>
   simp only[Option.map_some] at hl
   unfold boundV at hl
   unfold cutHi
   split at hl
   ·rename_i e;cases e
   ·rename_i k z d e
    simp only[Option.some.injEq] at e
    simp only[e];exact hl
   ·cases hl
 unfold rcut at h
 unfold hcut
 split at h
 ·rename_i s e
  obtain ⟨l,hl,h⟩:=bindO_spec h
  obtain ⟨h',hh,h⟩:=bindO_spec h
  rw[e];simp only[hlo l hl,hhi _ _ hh]
  exact ⟨h.1.1,h.1.2.1,h.1.2.2.1,h.1.2.2.2,h.2⟩
 ·rename_i rows e
  obtain ⟨⟨x0,e',te⟩,he,h⟩:=bindO_spec h
  obtain ⟨l,hl,h⟩:=bindO_spec h
  obtain ⟨h',hh,h⟩:=bindO_spec h
  rw[e];simp only[he,hlo l hl,hhi _ _ hh]
  exact ⟨h.1.1,h.1.2.1,h.1.2.2.1,h.1.2.2.2,h.2⟩
 ·rename_i id off len e
  obtain ⟨⟨x0,e',te⟩,he,h⟩:=bindO_spec h
  obtain ⟨l,hl,h⟩:=bindO_spec h
  obtain ⟨h',hh,h⟩:=bindO_spec h
  obtain ⟨ob,ho,h⟩:=bindO_spec h
  rw[e];simp only[he,hlo l hl,hhi _ _ hh,getO_spec ho]
  exact ⟨h.1.1,h.1.2.1,h.1.2.2.1,h.1.2.2.2.1,h.1.2.2.2.2,h.2⟩
 ·exact h.elim
theorem HQ_load {o:Oper} {t:TypeId} {a:Operand} {x:TI} (ho:o.op=.load t a) (hok:operOk N o=true) (hx:ti P t=some x) (h:onR (rloadQ x H (hev T a)) K):HQ P N o T H K :=
 fun B Z G FP ds act w hs=>by
  have ha:=hs.hev a (opds_mem hok (by simp[ho,Op.operands]))
  have hk:okTI x=true∧hloadP x H (hev T a) K:=by
   unfold rloadQ at h
   unfold hloadP
   split at h
   ·rename_i id n r o e
    rw[e]
    obtain ⟨ob,ho,h⟩:=bindO_spec h
    obtain ⟨row,hr,h⟩:=bindO_spec h
    simp only[getO_spec ho,hr]
    exact ⟨h.1.1,h.1.2.1,h.1.2.2.1,h.1.2.2.2,h.2⟩
   ·rename_i rows i o e
    rw[e]
    obtain ⟨row,hr,h⟩:=bindO_spec h
    simp only[hr]
    exact ⟨h.1.1,h.1.2.1,h.1.2.2,h.2⟩
   ·exact h.elim
  obtain ⟨v,h',h1,h2,h3⟩:=hloadP_run hx hk.1 hs.inv ha hk.2
  exact ⟨v,h',by simp only[execOp,ho,Sem.run_bind,h1,Result.andThen_ok,Sem.run_pure],h2,h3⟩
theorem HQ_rconv {o:Oper} {src dst:TypeId} {x:Operand} (ho:o.op=.convert src dst x) (hok:operOk N o=true) (h:onR (rconv P H src dst (hev T x)) K):HQ P N o T H K:=by
 unfold rconv at h
 split at h
 ·rename_i k n e
  obtain ⟨k1,h1,h⟩:=bindO_spec h
  obtain ⟨k2,h2,h⟩:=bindO_spec h
  refine HR_convI ho hok ?_
  unfold hconvI;rw[e];simp only[h1,h2];exact h.2
 ·rename_i s e
  refine HR_convI ho hok ?_
  unfold hconvI;rw[e];exact ⟨h.1.1,h.1.2,h.2⟩
 ·rename_i e1 e2
  obtain ⟨⟨x0,e,te⟩,he,h⟩:=bindO_spec h
  obtain ⟨rows,hr,h⟩:=bindO_spec h
  obtain ⟨l,hl,h⟩:=bindO_spec h
  refine HR_convS ho hok ?_
  unfold hconvS;rw[he,hr];simp only[hl];exact ⟨h.1.1,h.1.2,h.2⟩
theorem HQ_rmm {o:Oper} {b:Bool} {x y:Operand} {t u:TypeId} (ho:o.op=.call { callee:=.builtin (if b=true then .max else .min),args:=#[x,y],argTypes:=#[t,u] }) (hok:operOk N o=true) (h:onR (rmm b H (hev T x) (hev T y)) K):HQ P N o T H K:=by
 have h' : hmm b (hev T x) (hev T y) (fun v=>K v H):=by
  unfold rmm at h
  unfold hmm
  split at h
  ·rename_i e1 e2;first | exact h.2 | (rw[e1,e2];exact h.2)
  ·exact h.elim
 cases b with
 | true=>exact HR_max ho hok h'
 | false=>exact HR_min ho hok h'
theorem HQ_rop {o:Oper} (hok:operOk N o=true) (h:onR (ropQ P T H o.op) K):HQ P N o T H K:=by
 obtain ⟨d,op,ty,pos,af,g⟩:=o
 simp only at h
 unfold ropQ at h
 split at h
 ·exact (HR_move (.inl rfl) hok h.2)
 ·exact (HR_move (.inr rfl) hok h.2)
 ·rename_i c x y
  unfold rpick at h
  split at h
  ·rename_i hc;exact (HR_pick rfl hok hc (by simpa using h.2))
  ·rename_i hc;exact (HR_pick rfl hok hc (by simpa using h.2))
  ·exact h.elim
 ·rename_i t parts
  obtain ⟨x,hx,h⟩:=bindO_spec h
  obtain ⟨cs,hcs,h⟩:=bindO_spec h
  obtain ⟨cs',hcs',h⟩:=bindO_spec h
  refine (HR_build rfl hok ?_)
  unfold hbuild;rw[hx];simp only[hcs,hcs'];exact ⟨h.1.1,h.1.2.1,h.1.2.2,h.2⟩
 ·rename_i t a
  obtain ⟨x,hx,h⟩:=bindO_spec h
  exact HQ_load rfl hok hx h
 ·rename_i x
  refine (HR_sure rfl hok ?_)
  unfold rsure at h
  unfold hsure
  split at h <;> rename_i e <;> first | (rw[e];exact h.2) | (rw[e];exact ⟨h.1,h.2⟩) | exact h.elim
 ·rename_i op t x y t'
  obtain ⟨v,hv,h⟩:=bindO_spec h
  refine (HR_bin rfl hok ?_)
  unfold hbin;rw[hv];exact h.2
 ·rename_i op t x
  refine (HR_un rfl hok ?_)
  unfold run1 at h
  unfold hun
  split at h <;> first | (rename_i e;rw[e];exact h.2) | exact h.elim
 ·rename_i src dst x
  exact HQ_rconv rfl hok h
 ·rename_i t x
  obtain ⟨y,hy,h⟩:=bindO_spec h
  refine (HR_iface rfl hok ?_)
  unfold hiface;rw[hy];exact ⟨h.1.1,h.1.2,h.2⟩
 ·rename_i f first cs
  split at h
  ·exact (HR_func h.1 rfl hok h.2)
  ·exact (HR_meth rfl hok h.2)
  ·exact h.elim
 ·rename_i t x lo hi
  exact HQ_rcut rfl hok h
 ·rename_i s a i
  obtain ⟨⟨off,fx⟩,hf,h⟩:=bindO_spec h
  refine (HR_fieldAddr rfl hok ?_)
  unfold hfieldAddr;rw[hf];exact ⟨h.1.1,h.1.2,h.2⟩
 ·rename_i s a i
  unfold rfield at h
  split at h
  ·rename_i cs e
   obtain ⟨⟨off,fx⟩,hf,h⟩:=bindO_spec h
   refine (HR_field rfl hok ?_)
   unfold hfield;rw[hf,e];exact ⟨h.1.1,h.1.2,h.2⟩
  ·exact h.elim
 ·rename_i t a i
  refine (HR_indexAddr rfl hok ?_)
  unfold rindexAddr at h
  unfold hindexAddr
  split at h
  ·rename_i rows k z e1 e2
   obtain ⟨⟨x0,e',te⟩,he,h⟩:=bindO_spec h
   rw[e1,e2];simp only[he];exact ⟨h.1.1,h.1.2.1,h.1.2.2,h.2⟩
  ·rename_i id off len k z e1 e2
   obtain ⟨⟨x0,e',te⟩,he,h⟩:=bindO_spec h
   obtain ⟨ob,ho,h⟩:=bindO_spec h
   rw[e1,e2];simp only[he,getO_spec ho];exact ⟨h.1.1,h.1.2.1,h.1.2.2.1,h.1.2.2.2,h.2⟩
  ·rename_i id n r o k z e1 e2
   obtain ⟨⟨x0,e',te⟩,he,h⟩:=bindO_spec h
   rw[e1,e2];simp only[he];exact ⟨h.1.1,h.1.2.1,h.1.2.2,h.2⟩
  ·rename_i rows i o k z e1 e2
   obtain ⟨⟨x0,e',te⟩,he,h⟩:=bindO_spec h
   rw[e1,e2];simp only[he];exact ⟨rfl,h.1.1,h.1.2,h.2⟩
  ·exact h.elim
 ·rename_i t a i
  refine (HR_index rfl hok ?_)
  unfold rindex at h
  unfold hindex
  split at h
  ·rename_i s k z e1 e2
   obtain ⟨b,hb,h⟩:=bindO_spec h
   rw[e1,e2];simp only[hb];exact ⟨h.1.1,h.1.2,h.2⟩
  ·rename_i cs k z e1 e2
   obtain ⟨⟨x0,e',te⟩,he,h⟩:=bindO_spec h
   rw[e1,e2];simp only[he];exact ⟨h.1.1,h.1.2.1,h.1.2.2.1,h.1.2.2.2,h.2⟩
  ·exact h.elim
 ·rename_i x i
  refine (HR_extract rfl hok ?_)
  unfold rextract at h
  unfold hextract
  split at h
  ·rename_i vs e
   obtain ⟨v,hv,h⟩:=bindO_spec h
   rw[e];simp only[hv];exact h.2
  ·exact h.elim
 ·rename_i x t
  refine (HR_len rfl hok ?_)
  unfold rlen at h
  unfold hlen
  split at h
  ·rename_i s e;rw[e];exact ⟨h.1,h.2⟩
  ·rename_i e;rw[e];exact ⟨h.1,h.2⟩
  ·rename_i rows e;rw[e];exact ⟨h.1,h.2⟩
  ·rename_i id off len e
   obtain ⟨ob,ho,h⟩:=bindO_spec h
   rw[e];simp only[getO_spec ho];exact ⟨h.1.1,h.1.2,h.2⟩
  ·exact h.elim
 ·rename_i x y _ _
  exact HQ_rmm (b:=true) rfl hok h
 ·rename_i x y _ _
  exact HQ_rmm (b:=false) rfl hok h
 ·exact h.elim
theorem HR_rop {o:Oper} (hok:operOk N o=true) (h:onR (rop P T H o.op) K):HR P N o T H K:=by
 obtain ⟨d,op,ty,pos,af,g⟩:=o
 simp only at h
 unfold rop at h
 split at h
 ·exact HR_quiet (HR_move (.inl rfl) hok h.2)
 ·exact HR_quiet (HR_move (.inr rfl) hok h.2)
 ·rename_i c x y
  unfold rpick at h
  split at h
  ·rename_i hc;exact HR_quiet (HR_pick rfl hok hc (by simpa using h.2))
  ·rename_i hc;exact HR_quiet (HR_pick rfl hok hc (by simpa using h.2))
  ·exact h.elim
 ·rename_i t
  obtain ⟨x,hx,h⟩:=bindO_spec h
  obtain ⟨cs,hcs,h⟩:=bindO_spec h
  refine HR_alloc rfl ?_
  unfold halloc;rw[hx];simp only[hcs];exact h.2
 ·exact HR_box rfl hok h
 ·rename_i t parts
  obtain ⟨x,hx,h⟩:=bindO_spec h
  obtain ⟨cs,hcs,h⟩:=bindO_spec h
  obtain ⟨cs',hcs',h⟩:=bindO_spec h
  refine HR_quiet (HR_build rfl hok ?_)
  unfold hbuild;rw[hx];simp only[hcs,hcs'];exact ⟨h.1.1,h.1.2.1,h.1.2.2,h.2⟩
 ·rename_i t len parts
  obtain ⟨⟨x,e,te⟩,he,h⟩:=bindO_spec h
  refine HR_buildSlice rfl hok ?_
  unfold hbuildSlice newHd;rw[he];simp only[List.length_map]
  obtain ⟨⟨h1,h2,h3,h4,h5,h6⟩,h7⟩:=h
  exact ⟨h1,h2,h3,h4,h5,PartsOk_spec h6,h7⟩
 ·rename_i t a
  obtain ⟨x,hx,h⟩:=bindO_spec h
  refine HR_load rfl hok ?_
  unfold hload;rw[hx]
  unfold rload1 at h
  split at h
  ·rename_i id n r o e
   obtain ⟨ob,ho,h⟩:=bindO_spec h
   obtain ⟨row,hr,h⟩:=bindO_spec h
   have hcl:closedAt x H (.pt id n r o)=tvs ((row.drop o).take x.size):=by simp only[closedAt,getO_spec ho,hr]
   rw[e]
   unfold rload2 at h
   split at h
   ·rename_i ht
    refine ⟨h.1.1,?_⟩
    rw[hcl,ht,if_pos rfl]
    unfold hloadP
    simp only[getO_spec ho,hr]
    exact ⟨h.1.2.1,h.1.2.2,ht,h.2⟩
   ·rename_i ht
    obtain ⟨_,hk,h⟩:=bindO_spec h
    have hk' : okTI x=true:=by split at hk;assumption;cases hk
    refine ⟨hk',?_⟩
    rw[hcl,ht,if_neg (by simp)]
    simp only[openAt]
    unfold rloadP at h
    unfold hloadP
    obtain ⟨ob',ho',h⟩:=bindO_spec h
    obtain ⟨row',hr',h⟩:=bindO_spec h
    simp only[getO_spec ho',hr']
    exact ⟨h.1.1,h.1.2.1,h.1.2.2,h.2⟩
  ·rename_i rows i o e
   obtain ⟨row,hr,h⟩:=bindO_spec h
   rw[e]
   refine ⟨h.1.1,?_⟩
   unfold closedAt
   rw[if_pos rfl]
   unfold hloadP
   simp only[hr]
   exact ⟨h.1.2.1,h.1.2.2,h.2⟩
  ·exact h.elim
 ·rename_i t a x
  refine HR_store rfl hok ?_
  unfold rstore at h
  split at h
  ·rename_i id n r o e
   obtain ⟨x',hx,h⟩:=bindO_spec h
   obtain ⟨ob,ho,h⟩:=bindO_spec h
   obtain ⟨row,hr,h⟩:=bindO_spec h
   unfold hstore;rw[hx,e]
   simp only[getO_spec ho,hr]
   exact ⟨h.1.1,h.1.2.1,h.1.2.2.1,h.1.2.2.2,h.2⟩
  ·exact h.elim
 ·rename_i x
  refine HR_quiet (HR_sure rfl hok ?_)
  unfold rsure at h
  unfold hsure
  split at h <;> rename_i e <;> first | (rw[e];exact h.2) | (rw[e];exact ⟨h.1,h.2⟩) | exact h.elim
 ·rename_i op t x y t'
  obtain ⟨v,hv,h⟩:=bindO_spec h
  refine HR_quiet (HR_bin rfl hok ?_)
  unfold hbin;rw[hv];exact h.2
 ·rename_i op t x
  refine HR_quiet (HR_un rfl hok ?_)
  unfold run1 at h
  unfold hun
  split at h <;> first | (rename_i e;rw[e];exact h.2) | exact h.elim
 ·rename_i src dst x
  unfold rconvA at h
  split at h
  ·rename_i s e
   split at h
   ·obtain ⟨⟨x0,e',te⟩,he,h⟩:=bindO_spec h
    refine HR_bytes rfl hok ?_
    unfold hbytes;rw[e];simp only[he]
    exact ⟨h.1.1,h.1.2.1,h.1.2.2,h.2⟩
   ·exact HR_quiet (HQ_rconv rfl hok (by rw[e];exact h))
  ·exact HR_quiet (HQ_rconv rfl hok h)
 ·rename_i t x
  obtain ⟨y,hy,h⟩:=bindO_spec h
  refine HR_quiet (HR_iface rfl hok ?_)
  unfold hiface;rw[hy];exact ⟨h.1.1,h.1.2,h.2⟩
 ·rename_i f first cs
  split at h
  ·exact HR_quiet (HR_func h.1 rfl hok h.2)
  ·exact HR_quiet (HR_meth rfl hok h.2)
  ·exact h.elim
 ·rename_i t l c
  refine HR_makeSlice rfl hok ?_
  unfold rmakeSlice at h
  split at h
  ·rename_i k1 n k2 m e1 e2
   obtain ⟨⟨x0,e,te⟩,he,h⟩:=bindO_spec h
   obtain ⟨cs,hcs,h⟩:=bindO_spec h
   unfold hmakeSlice newHd;rw[he,e1,e2];simp only[hcs,List.length_replicate]
   exact ⟨h.1.1,h.1.2.1,h.1.2.2.1,h.1.2.2.2,h.2⟩
  ·exact h.elim
 ·rename_i t x hi
  unfold rcutT at h
  split at h
  ·rename_i id len e
   obtain ⟨⟨x0,e',te⟩,he,h⟩:=bindO_spec h
   obtain ⟨y,hy,h⟩:=bindO_spec h
   obtain ⟨ob,ho,h⟩:=bindO_spec h
   refine HR_cutT rfl hok ?_
   unfold hcutT
   have hc:cutHi T len (some hi)=some y:=by
    unfold boundV at hy
    simp only[cutHi]
    split at hy
    ·rename_i e;cases e
    ·rename_i k z d e
     simp only[Option.some.injEq] at e
     simp only[e];exact hy
    ·cases hy
   rw[e]
   simp only[he,hc,getO_spec ho]
   exact ⟨h.1.1,h.1.2.1,h.1.2.2.1,h.1.2.2.2,h.2⟩
  ·exact HR_quiet (HQ_rcut (lo:=none) (hi:=some hi) rfl hok h)
 ·rename_i t x lo
  unfold rcutB at h
  split at h
  ·rename_i id n e
   obtain ⟨m,hm,h⟩:=bindO_spec h
   obtain ⟨z,hz,h⟩:=bindO_spec h
   obtain ⟨ob,ho,h⟩:=bindO_spec h
   obtain ⟨row,hr,h⟩:=bindO_spec h
   refine HR_cutA rfl hok ?_
   unfold hcutA;rw[e]
   unfold boundV at hz
   split at hz
   ·rename_i e1;cases e1
   ·rename_i k z' d e1
    cases hz
    simp only[Option.some.injEq] at e1
    have hrow:ob.rows=[row]:=by
     unfold oneRow at hr;split at hr
     ·rename_i r' e2;cases hr;exact e2
     ·cases hr
    simp only[hm,e1,getO_spec ho,hrow]
    exact ⟨h.1.1,h.1.2.1,h.1.2.2.1,h.1.2.2.2.1,h.1.2.2.2.2,h.2⟩
   ·cases hz
  ·exact HR_quiet (HQ_rcut (lo:=some lo) (hi:=none) rfl hok h)
 ·rename_i t x lo hi hne hne2
  exact HR_quiet (HQ_rcut rfl hok h)
 ·rename_i s a i
  obtain ⟨⟨off,fx⟩,hf,h⟩:=bindO_spec h
  refine HR_quiet (HR_fieldAddr rfl hok ?_)
  unfold hfieldAddr;rw[hf];exact ⟨h.1.1,h.1.2,h.2⟩
 ·rename_i s a i
  unfold rfield at h
  split at h
  ·rename_i cs e
   obtain ⟨⟨off,fx⟩,hf,h⟩:=bindO_spec h
   refine HR_quiet (HR_field rfl hok ?_)
   unfold hfield;rw[hf,e];exact ⟨h.1.1,h.1.2,h.2⟩
  ·exact h.elim
 ·rename_i t a i
  refine HR_quiet (HR_indexAddr rfl hok ?_)
  unfold rindexAddr at h
  unfold hindexAddr
  split at h
  ·rename_i rows k z e1 e2
   obtain ⟨⟨x0,e',te⟩,he,h⟩:=bindO_spec h
   rw[e1,e2];simp only[he];exact ⟨h.1.1,h.1.2.1,h.1.2.2,h.2⟩
  ·rename_i id off len k z e1 e2
   obtain ⟨⟨x0,e',te⟩,he,h⟩:=bindO_spec h
   obtain ⟨ob,ho,h⟩:=bindO_spec h
   rw[e1,e2];simp only[he,getO_spec ho];exact ⟨h.1.1,h.1.2.1,h.1.2.2.1,h.1.2.2.2,h.2⟩
  ·rename_i id n r o k z e1 e2
   obtain ⟨⟨x0,e',te⟩,he,h⟩:=bindO_spec h
   rw[e1,e2];simp only[he];exact ⟨h.1.1,h.1.2.1,h.1.2.2,h.2⟩
  ·rename_i rows i o k z e1 e2
   obtain ⟨⟨x0,e',te⟩,he,h⟩:=bindO_spec h
   rw[e1,e2];simp only[he];exact ⟨rfl,h.1.1,h.1.2,h.2⟩
  ·exact h.elim
 ·rename_i t a i
  refine HR_quiet (HR_index rfl hok ?_)
  unfold rindex at h
  unfold hindex
  split at h
  ·rename_i s k z e1 e2
   obtain ⟨b,hb,h⟩:=bindO_spec h
   rw[e1,e2];simp only[hb];exact ⟨h.1.1,h.1.2,h.2⟩
  ·rename_i cs k z e1 e2
   obtain ⟨⟨x0,e',te⟩,he,h⟩:=bindO_spec h
   rw[e1,e2];simp only[he];exact ⟨h.1.1,h.1.2.1,h.1.2.2.1,h.1.2.2.2,h.2⟩
  ·exact h.elim
 ·rename_i x i
  refine HR_quiet (HR_extract rfl hok ?_)
  unfold rextract at h
  unfold hextract
  split at h
  ·rename_i vs e
   obtain ⟨v,hv,h⟩:=bindO_spec h
   rw[e];simp only[hv];exact h.2
  ·exact h.elim
 ·exact HR_makeMap rfl hok h.2
 ·rename_i t m k ok
  refine HR_quiet (HQ_lookup rfl hok ?_)
  unfold rlookup at h
  unfold hlookup
  split at h
  ·rename_i id e
   obtain ⟨ob,ho,h⟩:=bindO_spec h
   obtain ⟨⟨es,c⟩,hm,h⟩:=bindO_spec h
   obtain ⟨⟨kt,et,z⟩,ht,h⟩:=bindO_spec h
   obtain ⟨key,hk,h⟩:=bindO_spec h
   obtain ⟨r,hr,h⟩:=bindO_spec h
   obtain ⟨r',hr',rfl⟩:=Option.map_eq_some_iff.1 hr
   rw[e];simp only[getO_spec ho,hm,ht,hk,hr']
   exact h
  ·exact h.elim
 ·rename_i t m k x
  refine HR_mapUpdate rfl hok ?_
  unfold rmapUpdate at h
  unfold hmapUpdate
  split at h
  ·rename_i id e
   obtain ⟨ob,ho,h⟩:=bindO_spec h
   obtain ⟨⟨es,c⟩,hm,h⟩:=bindO_spec h
   obtain ⟨⟨kt,et,z⟩,ht,h⟩:=bindO_spec h
   obtain ⟨key,hk,h⟩:=bindO_spec h
   obtain ⟨val,hv,h⟩:=bindO_spec h
   obtain ⟨r,hr,h⟩:=bindO_spec h
   obtain ⟨r',hr',rfl⟩:=Option.map_eq_some_iff.1 hr
   rw[e];simp only[getO_spec ho,hm,ht,hk,hv,hr']
   exact ⟨h.1.1,h.1.2,h.2⟩
  ·exact h.elim
 ·rename_i t m k
  refine HR_mapEntry rfl hok ?_
  unfold rmapEntry at h
  unfold hmapEntry
  split at h
  ·rename_i id e
   obtain ⟨ob,ho,h⟩:=bindO_spec h
   obtain ⟨⟨es,c⟩,hm,h⟩:=bindO_spec h
   obtain ⟨⟨kt,et,z⟩,ht,h⟩:=bindO_spec h
   obtain ⟨key,hk,h⟩:=bindO_spec h
   obtain ⟨r,hr,h⟩:=bindO_spec h
   obtain ⟨r',hr',rfl⟩:=Option.map_eq_some_iff.1 hr
   rw[e];simp only[getO_spec ho,hm,ht,hk,hr']
   exact ⟨h.1.1,h.1.2,h.2⟩
  ·exact h.elim
 ·rename_i t m s x
  refine HR_entryStore rfl hok ?_
  unfold rentryStore at h
  unfold hentryStore
  split at h
  ·rename_i id b0 e1 e2
   obtain ⟨ob,ho,h⟩:=bindO_spec h
   obtain ⟨⟨es,c⟩,hm,h⟩:=bindO_spec h
   obtain ⟨val,hv,h⟩:=bindO_spec h
   obtain ⟨r,hr,h⟩:=bindO_spec h
   obtain ⟨r',hr',rfl⟩:=Option.map_eq_some_iff.1 hr
   rw[e1,e2];simp only[getO_spec ho,hm,hv,hr']
   exact h.2
  ·exact h.elim
 ·rename_i x t
  refine HR_quiet (HR_len rfl hok ?_)
  unfold rlen at h
  unfold hlen
  split at h
  ·rename_i s e;rw[e];exact ⟨h.1,h.2⟩
  ·rename_i e;rw[e];exact ⟨h.1,h.2⟩
  ·rename_i rows e;rw[e];exact ⟨h.1,h.2⟩
  ·rename_i id off len e
   obtain ⟨ob,ho,h⟩:=bindO_spec h
   rw[e];simp only[getO_spec ho];exact ⟨h.1.1,h.1.2,h.2⟩
  ·exact h.elim
 ·rename_i s x t u
  split at h
  ·rename_i htu
   subst htu
   refine HR_append rfl hok ?_
   unfold rappend at h
   unfold happend newHd
   split at h
   ·rename_i es
    obtain ⟨⟨x0,e',te⟩,he,h⟩:=bindO_spec h
    obtain ⟨new,hn,h⟩:=bindO_spec h
    obtain ⟨⟨h1,h2,h3,h4,h5,h6⟩,h7⟩:=h
    rw[he,hn,es]
    exact ⟨h1,h2,h3,h4,h5,h6,h7⟩
   ·rename_i id len es
    obtain ⟨⟨x0,e',te⟩,he,h⟩:=bindO_spec h
    obtain ⟨new,hn,h⟩:=bindO_spec h
    obtain ⟨ob,ho,h⟩:=bindO_spec h
    obtain ⟨⟨h1,h2,h3,h4,h5,h6,h7,h8,h9⟩,h10⟩:=h
    rw[he,hn,es]
    simp only[getO_spec ho]
    exact ⟨h1,h2,h3,h4,h5,h6,h7,h8,h9,h10⟩
   ·exact h.elim
  ·exact h.elim
 ·rename_i d x t t'
  refine HR_copy rfl hok ?_
  unfold rcopy at h
  unfold hcopy
  split at h
  ·rename_i id len es
   obtain ⟨⟨x0,e',te⟩,he,h⟩:=bindO_spec h
   obtain ⟨new,hn,h⟩:=bindO_spec h
   obtain ⟨ob,ho,h⟩:=bindO_spec h
   obtain ⟨⟨h1,h2,h3,h4,h5,h6,h7,h8⟩,h10⟩:=h
   rw[he,hn,es]
   simp only[getO_spec ho]
   exact ⟨h1,h2,h3,h4,h5,h6,h7,h8,h10⟩
  ·exact h.elim
 ·rename_i x y _ _
  exact HR_quiet (HQ_rmm (b:=true) rfl hok h)
 ·rename_i x y _ _
  exact HR_quiet (HQ_rmm (b:=false) rfl hok h)
 ·exact h.elim
end
end Go.Proofs.YtmapdjdnnhlpiaaGreatDoor
