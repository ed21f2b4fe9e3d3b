/- Parts of the proof: HiN, HiO, HiP, HiY. -/
import Derived.Test.YtoknohandclcbaaGreatZc02
import Derived.Lib.ConvBytes
set_option linter.unusedSectionVars false
set_option linter.unusedVariables false
set_option linter.unusedSimpArgs false
namespace Go.Proofs.YtoknohandclcbaaGreat
open Go.RowKit
mutual
def fzo:HV→HV
 | .ow e sz rows=>.sl (fzoR rows)
 | .bx e sz row=>.fp [fzoL row] 0 0
 | .hd ..=>.any
 | .pt ..=>.any
 | .ag cs=>.ag (fzoL cs)
 | .tu cs=>.tu (fzoL cs)
 | .fn f cs=>.fn f (fzoL cs)
 | .ic t x=>.ic t (fzo x)
 | .ob _=>.any
 | .mp _=>.any
 | .om ..=>.any
 | .yl _=>.any
 | x=>x
def fzoL:List HV→List HV
 | []=>[]
 | h::t=>fzo h::fzoL t
def fzoR:List (List HV)→List (List HV)
 | []=>[]
 | r::t=>fzoL r::fzoR t
end
theorem zA0:∀l:List HV,(fzoL l).length=l.length
 | []=>rfl
 | h::t=>by simp[fzoL,zA0 t]
theorem zAZ:∀l:List (List HV),(fzoR l).length=l.length
 | []=>rfl
 | h::t=>by simp[fzoR,zAZ t]
theorem zBv:∀(l:List (List HV)),fzoR l=l.map fzoL
 | []=>rfl
 | h::t=>by simp[fzoR,zBv t]
def fz:Nat→Heap→HV→HV
 | 0,_,x=>fzo x
 | n+1,H,.hd id off len =>
  match H[id]? with
  | some (some ob)=>if off+len=ob.rows.length then .sl ((ob.rows.drop off).map fun r=>r.map (fz n H)) else .any
  | _=>.any
 | n+1,H,.pt id k r o =>
  match H[id]? with
  | some (some ob)=>if k=ob.rows.length∧ob.rows.length≠0 then .fp (ob.rows.map fun r=>r.map (fz n H)) r o else .any
  | _=>.any
 | n+1,H,.ag cs=>.ag (cs.map (fz n H))
 | n+1,H,.tu cs=>.tu (cs.map (fz n H))
 | n+1,H,.fn f cs=>.fn f (cs.map (fz n H))
 | n+1,H,.ic t x=>.ic t (fz n H x)
 | _+1,_,x=>fzo x
section
variable {Z:Nat→Prop} {w:World}
theorem zBy {sz:Nat} {rows:List (List HV)} (h:∀r∈rows,r.length=sz):Uni rows:=by
 intro r hr
 rw[h r hr,zCh h (by intro e;subst e;simp at hr)]
def Lent (Z Z' : Nat→Prop) (fr:List Nat):Prop:=(∀b,Z b→Z' b)∧∀b∈fr,Z' b
mutual
theorem zBQ {Z' : Nat→Prop}:∀(h:HV) (G:List (Option OG)) (y:Value) (fr:List Nat),Lent Z Z' fr→RV Z G w h y fr→RV Z' [] w (fzo h) y []
 | .any,G,y,fr,hl,hr=>by simp[fzo,RV]
 | .v x,G,y,fr,hl,hr=>by simp only[RV] at hr;simp[fzo,RV,hr.2]
 | .sl rows,G,y,fr,hl,hr=>by
  have:=zCt _ y fr rfl hr;subst this
  have:=RV.keep (Z':=Z') (G':=G) (fun _ _=>rfl) hl.1 (GLe.refl _) _ _ _ (fun _ _=>rfl) hr
  simpa only[fzo,RV] using this
 | .gv b,G,y,fr,hl,hr=>by
  have:=zCt _ y fr rfl hr;subst this
  have:=RV.keep (Z':=Z') (G':=G) (fun _ _=>rfl) hl.1 (GLe.refl _) _ _ _ (fun _ _=>rfl) hr
  simpa only[fzo,RV] using this
 | .fp rows i o,G,y,fr,hl,hr=>by
  have:=zCt _ y fr rfl hr;subst this
  have:=RV.keep (Z':=Z') (G':=G) (fun _ _=>rfl) hl.1 (GLe.refl _) _ _ _ (fun _ _=>rfl) hr
  simpa only[fzo,RV] using this
 | .hd ..,G,y,fr,hl,hr=>by simp[fzo,RV]
 | .pt ..,G,y,fr,hl,hr=>by simp[fzo,RV]
 | .ob _,G,y,fr,hl,hr=>by simp[fzo,RV]
 | .mp _,G,y,fr,hl,hr=>by simp[fzo,RV]
 | .om ..,G,y,fr,hl,hr=>by simp[fzo,RV]
 | .yl _,G,y,fr,hl,hr=>by simp[fzo,RV]
 | .ow e sz rows,G,y,fr,hl,hr=>by
  simp only[RV] at hr
  simp only[fzo,RV]
  rcases hr with ⟨rfl,rfl,rfl⟩ | ⟨b,cap,cells,f,rfl,rfl,h1,h2,h3,h4,h5,h6⟩
  ·exact ⟨trivial,none,0,rfl,by simp[fzoR],by simp[maxLen],.inl rfl⟩
  ·refine ⟨trivial,_,cap,by rw[zAZ],by rw[zAZ];exact h3,h4,.inr ⟨b,0,rfl,hl.2 b (by simp),?_,zCN rows [] b 0 f ⟨hl.1,fun z hz=>hl.2 z (by simp[hz])⟩ h6⟩⟩
   refine zBy (sz:=sz) fun r hr=>?_
   rw[zBv] at hr
   obtain ⟨r',hr',rfl⟩:=List.mem_map.1 hr
   rw[zA0];exact h5 r' hr'
 | .bx e sz row,G,y,fr,hl,hr=>by
  simp only[RV] at hr
  simp only[fzo,RV]
  obtain ⟨b,cap,cells,f,rfl,rfl,h1,h2,hc1,hc2,h3,h4⟩:=hr
  refine ⟨trivial,b,0,by simp,hl.2 b (by simp),zBy (sz:=row.length) (by simp[zA0]),?_⟩
  simp only[RR]
  exact ⟨[],[],rfl,zEO row [] b 0 f ⟨hl.1,fun z hz=>hl.2 z (by simp[hz])⟩ h4,rfl⟩
 | .ag cs,G,y,fr,hl,hr=>by
  simp only[RV] at hr
  obtain ⟨ys,rfl,h⟩:=hr
  simp only[fzo,RV]
  exact ⟨ys,rfl,zEN cs G _ fr hl h⟩
 | .tu cs,G,y,fr,hl,hr=>by
  simp only[RV] at hr
  obtain ⟨ys,rfl,h⟩:=hr
  simp only[fzo,RV]
  exact ⟨ys,rfl,zEN cs G _ fr hl h⟩
 | .fn f cs,G,y,fr,hl,hr=>by
  simp only[RV] at hr
  obtain ⟨ys,rfl,h⟩:=hr
  simp only[fzo,RV]
  exact ⟨ys,rfl,zEN cs G _ fr hl h⟩
 | .ic t x,G,y,fr,hl,hr=>by
  simp only[RV] at hr
  obtain ⟨rfl,z,rfl,h⟩:=hr
  simp only[fzo,RV]
  exact ⟨trivial,z,rfl,zBQ x G z [] hl h⟩
theorem zEN {Z' : Nat→Prop}:∀(l:List HV) (G:List (Option OG)) (ys:List Value) (fr:List Nat),Lent Z Z' fr→RL Z G w l ys fr→RL Z' [] w (fzoL l) ys []
 | [],G,ys,fr,hl,hr=>by simp only[RL] at hr;simp[fzoL,RL,hr.1]
 | h::t,G,ys,fr,hl,hr=>by
  simp only[RL] at hr
  obtain ⟨y,ys',f1,f2,rfl,rfl,h1,h2⟩:=hr
  simp only[fzoL,RL]
  exact ⟨y,ys',[],[],rfl,rfl,zBQ h G y f1 ⟨hl.1,fun b hb=>hl.2 b (by simp[hb])⟩ h1,zEN t G ys' f2 ⟨hl.1,fun b hb=>hl.2 b (by simp[hb])⟩ h2⟩
theorem zEO {Z' : Nat→Prop}:∀(l:List HV) (G:List (Option OG)) (b k:Nat) (fr:List Nat),Lent Z Z' fr→RC Z G w l b k fr→RC Z' [] w (fzoL l) b k []
 | [],G,b,k,fr,hl,hr=>by simp[fzoL,RC]
 | h::t,G,b,k,fr,hl,hr=>by
  simp only[RC] at hr
  obtain ⟨y,f1,f2,rfl,h1,h2,h3,h4⟩:=hr
  simp only[fzoL,RC]
  exact ⟨y,[],[],rfl,h1,h2,zBQ h G y f1 ⟨hl.1,fun b hb=>hl.2 b (by simp[hb])⟩ h3,zEO t G b (k+1) f2 ⟨hl.1,fun b hb=>hl.2 b (by simp[hb])⟩ h4⟩
theorem zCN {Z' : Nat→Prop}:∀(l:List (List HV)) (G:List (Option OG)) (b k:Nat) (fr:List Nat),Lent Z Z' fr→RR Z G w l b k fr→RR Z' [] w (fzoR l) b k []
 | [],G,b,k,fr,hl,hr=>by simp[fzoR,RR]
 | r::t,G,b,k,fr,hl,hr=>by
  simp only[RR] at hr
  obtain ⟨f1,f2,rfl,h1,h2⟩:=hr
  simp only[fzoR,RR]
  rw[zA0]
  exact ⟨[],[],rfl,zEO r G b k f1 ⟨hl.1,fun b hb=>hl.2 b (by simp[hb])⟩ h1,zCN t G b (k+r.length) f2 ⟨hl.1,fun b hb=>hl.2 b (by simp[hb])⟩ h2⟩
end
def Zall (Z:Nat→Prop) (FP:Nat→List Nat):Nat→Prop:=fun b=>Z b∨∃id,b∈FP id
theorem zFA {f:HV→HV} {Z' : Nat→Prop} {G:List (Option OG)} {fr:List Nat} (hf:∀(h:HV) (y:Value) (g:List Nat),(∀b∈g,b∈fr)→RV Z G w h y g→RV Z' [] w (f h) y []):∀(l:List HV) (ys:List Value) (g:List Nat),(∀b∈g,b∈fr)→RL Z G w l ys g→RL Z' [] w (l.map f) ys []
 | [],ys,g,hg,h=>by simp only[RL] at h;simp[RL,h.1]
 | h::t,ys,g,hg,hr=>by
  simp only[RL] at hr
  obtain ⟨y,ys',f1,f2,rfl,rfl,h1,h2⟩:=hr
  simp only[List.map_cons,RL]
  exact ⟨y,ys',[],[],rfl,rfl,hf h y f1 (fun b hb=>hg b (by simp[hb])) h1,zFA hf t ys' f2 (fun b hb=>hg b (by simp[hb])) h2⟩
theorem zUg {f:HV→HV} {Z' : Nat→Prop} {G:List (Option OG)} {fr:List Nat} (hf:∀(h:HV) (y:Value) (g:List Nat),(∀b∈g,b∈fr)→RV Z G w h y g→RV Z' [] w (f h) y []):∀(l:List HV) (b k:Nat) (g:List Nat),(∀b∈g,b∈fr)→RC Z G w l b k g→RC Z' [] w (l.map f) b k []
 | [],b,k,g,hg,h=>by simp[RC]
 | h::t,b,k,g,hg,hr=>by
  simp only[RC] at hr
  obtain ⟨y,f1,f2,rfl,h1,h2,h3,h4⟩:=hr
  simp only[List.map_cons,RC]
  exact ⟨y,[],[],rfl,h1,h2,hf h y f1 (fun b hb=>hg b (by simp[hb])) h3,zUg hf t b (k+1) f2 (fun b hb=>hg b (by simp[hb])) h4⟩
theorem zNL {f:HV→HV} {Z' : Nat→Prop} {G:List (Option OG)} {fr:List Nat} (hf:∀(h:HV) (y:Value) (g:List Nat),(∀b∈g,b∈fr)→RV Z G w h y g→RV Z' [] w (f h) y []):∀(l:List (List HV)) (b k:Nat) (g:List Nat),(∀b∈g,b∈fr)→RR Z G w l b k g→RR Z' [] w (l.map fun r=>r.map f) b k []
 | [],b,k,g,hg,h=>by simp[RR]
 | r::t,b,k,g,hg,hr=>by
  simp only[RR] at hr
  obtain ⟨f1,f2,rfl,h1,h2⟩:=hr
  simp only[List.map_cons,RR,List.length_map]
  exact ⟨[],[],rfl,zUg hf r b k f1 (fun b hb=>hg b (by simp[hb])) h1,zNL hf t b (k+r.length) f2 (fun b hb=>hg b (by simp[hb])) h2⟩
theorem zId {G:List (Option OG)} {FP:Nat→List Nat} {H:Heap} (hi:HInv Z G FP H w):∀(n:Nat) (h:HV) (y:Value) (g:List Nat),(∀b∈g,Zall Z FP b)→RV Z G w h y g→RV (Zall Z FP) [] w (fz n H h) y []
 | 0,h,y,g,hg,hr=>by unfold fz;exact zBQ h G y g ⟨fun b hb=>.inl hb,hg⟩ hr
 | n+1,h,y,g,hg,hr=>by
  have other:fz (n+1) H h=fzo h→RV (Zall Z FP) [] w (fz (n+1) H h) y []:=fun e=>by
   rw[e];exact zBQ h G y g ⟨fun b hb=>.inl hb,hg⟩ hr
  have ih:=zId hi n
  cases h with
  | hd id off len =>
   have:=zCt _ y g rfl hr;subst this
   simp only[fz]
   split
   ·rename_i ob ho
    split
    ·rename_i hn
     obtain ⟨og,hgo,hOB,hview⟩:=zEK hi ho hn hr
     simp only[RV]
     have hlen:((ob.rows.drop off).map fun r=>r.map (fz n H)).length=len:=by simp;omega
     unfold View at hview
     split at hview
     ·rename_i hbn
      obtain ⟨hview,hv1,hv2⟩:=hview
      have hrr:ob.rows=[]:=by
       rcases hOB.at_ with ⟨_,e1,_⟩ | ⟨b,cells,f,e1,_⟩ | ⟨u3,hs3,obj3,f3,e1,e3,_⟩
       ·exact e1
       ·rw[hbn] at e1;cases e1
       ·have:=congrArg List.length e3;simp only[List.length_cons,List.length_nil] at this;omega
      have:len=0:=by rw[hrr] at hn;simp at hn;omega
      subst this
      exact ⟨trivial,none,0,by rw[hlen];exact hview,by rw[hlen];omega,by simp[maxLen],.inl (List.eq_nil_of_length_eq_zero hlen)⟩
     ·rename_i b hb
      obtain ⟨ad,hy,hA⟩:=hview
      obtain ⟨b',cells,f,e1,e2,e3,e4,e5,e6,e7⟩:=hOB.cells_ hb
      rw[hb] at e1;cases e1
      refine ⟨trivial,some ad,og.cap-off,by rw[hlen];exact hy,by rw[hlen];omega,by omega,?_⟩
      by_cases h0:len=0
      ·exact .inl (List.eq_nil_of_length_eq_zero (by omega))
      ·refine .inr ⟨b,off*ob.sz,by rw[hA (.inl h0),hOB.sz],.inr ⟨id,by rw[e2];simp⟩,?_,?_⟩
       ·refine zBy (sz:=ob.sz) fun r hr=>?_
        obtain ⟨r',hr',rfl⟩:=List.mem_map.1 hr
        rw[List.length_map];exact hOB.len r' (List.mem_of_mem_drop hr')
       ·obtain ⟨f',h1,h2⟩:=zIx ob.rows 0 off f hOB.len e7
        rw[Nat.zero_add] at h1
        exact zNL (fr:=f) (fun h y g hg hr=>ih h y g (fun b hb=>.inr ⟨id,by rw[e2];simp[hg b hb]⟩) hr) _ _ _ _ (fun b hb=>h2.subset hb) h1
    ·simp[RV]
   ·simp[RV]
  | pt id k r o =>
   have:=zCt _ y g rfl hr;subst this
   simp only[fz]
   split
   ·rename_i ob ho
    split
    ·rename_i hn
     obtain ⟨og,hgo,hOB⟩:=hi.live id ob ho
     simp only[RV] at hr
     obtain ⟨_,_,_,hr⟩:=hr
     obtain ⟨b,hb,rfl⟩:=(hr og hgo).2 (by rw[hn.1,hOB.n])
     obtain ⟨b',cells,f,e1,e2,e3,e4,e5,e6,e7⟩:=hOB.cells_ hb
     rw[hb] at e1;cases e1
     simp only[RV]
     have hall:∀r∈ob.rows.map (fun r=>r.map (fz n H)),r.length=ob.sz:=fun r hr=>by
      obtain ⟨r',hr',rfl⟩:=List.mem_map.1 hr
      rw[List.length_map];exact hOB.len r' hr'
     refine ⟨trivial,b,0,?_,.inr ⟨id,by rw[e2];simp⟩,zBy hall,?_⟩
     ·rw[zCh hall (by intro e;have:=congrArg List.length e;simp at this;rw[this] at hn;simp at hn),hOB.sz,Nat.zero_add]
     ·exact zNL (fr:=f) (fun h y g hg hr=>ih h y g (fun b hb=>.inr ⟨id,by rw[e2];simp[hg b hb]⟩) hr) _ _ _ _ (fun b hb=>hb) e7
    ·simp[RV]
   ·simp[RV]
  | ag cs =>
   simp only[RV] at hr
   obtain ⟨ys,rfl,h⟩:=hr
   simp only[fz,RV]
   exact ⟨ys,rfl,zFA (fr:=g) (fun h y g' hg' hr=>ih h y g' (fun b hb=>hg b (hg' b hb)) hr) _ _ _ (fun b hb=>hb) h⟩
  | tu cs =>
   simp only[RV] at hr
   obtain ⟨ys,rfl,h⟩:=hr
   simp only[fz,RV]
   exact ⟨ys,rfl,zFA (fr:=g) (fun h y g' hg' hr=>ih h y g' (fun b hb=>hg b (hg' b hb)) hr) _ _ _ (fun b hb=>hb) h⟩
  | fn f cs =>
   simp only[RV] at hr
   obtain ⟨ys,rfl,h⟩:=hr
   simp only[fz,RV]
   exact ⟨ys,rfl,zFA (fr:=g) (fun h y g' hg' hr=>ih h y g' (fun b hb=>hg b (hg' b hb)) hr) _ _ _ (fun b hb=>hb) h⟩
  | ic t x =>
   simp only[RV] at hr
   obtain ⟨rfl,z,rfl,h⟩:=hr
   simp only[fz,RV]
   exact ⟨trivial,z,rfl,ih x z [] hg h⟩
  | any=>exact other rfl
  | v x=>exact other rfl
  | sl rows=>exact other rfl
  | ow e sz rows=>exact other rfl
  | bx e sz row=>exact other rfl
  | fp rows i o=>exact other rfl
  | ob x=>exact other rfl
  | mp i=>exact other rfl
  | om x hs=>exact other rfl
  | yl i=>exact other rfl
  | gv i=>exact other rfl
mutual
def nz:HV→Bool
 | .any=>true
 | .v _=>true
 | .ow _ _ rows=>nzR rows
 | .bx _ _ row=>nzL row
 | .ag cs=>nzL cs
 | .tu cs=>nzL cs
 | .fn _ cs=>nzL cs
 | .ic _ x=>nz x
 | .om _ hs=>nzL hs
 | _=>false
def nzL:List HV→Bool
 | []=>true
 | h::t=>nz h && nzL t
def nzR:List (List HV)→Bool
 | []=>true
 | r::t=>nzL r && nzR t
end
mutual
theorem zGI {Z' : Nat→Prop}:∀(h:HV) (G G' : List (Option OG)) (y:Value) (fr:List Nat),nz h=true→RV Z G w h y fr→RV Z' G' w h y fr
 | .any,G,G',y,fr,hn,hr=>by simpa only[RV] using hr
 | .v x,G,G',y,fr,hn,hr=>by simpa only[RV] using hr
 | .sl rows,G,G',y,fr,hn,hr=>by simp[nz] at hn
 | .fp ..,G,G',y,fr,hn,hr=>by simp[nz] at hn
 | .hd ..,G,G',y,fr,hn,hr=>by simp[nz] at hn
 | .pt ..,G,G',y,fr,hn,hr=>by simp[nz] at hn
 | .ob _,G,G',y,fr,hn,hr=>by simp[nz] at hn
 | .mp _,G,G',y,fr,hn,hr=>by simp[nz] at hn
 | .yl _,G,G',y,fr,hn,hr=>by simp[nz] at hn
 | .gv _,G,G',y,fr,hn,hr=>by simp[nz] at hn
 | .om x hs,G,G',y,fr,hn,hr=>by
  simp only[RV] at hr⊢
  obtain ⟨b,obj,f,h1,h2,h3,h4,h5⟩:=hr
  exact ⟨b,obj,f,h1,h2,h3,h4,zEB hs [] [] _ f (by simpa [nz] using hn) h5⟩
 | .ow e sz rows,G,G',y,fr,hn,hr=>by
  simp only[RV] at hr⊢
  refine hr.imp id ?_
  rintro ⟨b,cap,cells,f,h1,h2,h3,h4,h5,h6,h7,h8⟩
  exact ⟨b,cap,cells,f,h1,h2,h3,h4,h5,h6,h7,zNf rows [] [] b 0 f (by simpa [nz] using hn) h8⟩
 | .bx e sz row,G,G',y,fr,hn,hr=>by
  simp only[RV] at hr⊢
  obtain ⟨b,cap,cells,f,h1,h2,h3,h4,h7,h8,h5,h6⟩:=hr
  exact ⟨b,cap,cells,f,h1,h2,h3,h4,h7,h8,h5,zI0 row [] [] b 0 f (by simpa [nz] using hn) h6⟩
 | .ag cs,G,G',y,fr,hn,hr=>by
  simp only[RV] at hr⊢
  obtain ⟨ys,h1,h2⟩:=hr
  exact ⟨ys,h1,zEB cs G G' _ fr (by simpa [nz] using hn) h2⟩
 | .tu cs,G,G',y,fr,hn,hr=>by
  simp only[RV] at hr⊢
  obtain ⟨ys,h1,h2⟩:=hr
  exact ⟨ys,h1,zEB cs G G' _ fr (by simpa [nz] using hn) h2⟩
 | .fn f cs,G,G',y,fr,hn,hr=>by
  simp only[RV] at hr⊢
  obtain ⟨ys,h1,h2⟩:=hr
  exact ⟨ys,h1,zEB cs G G' _ fr (by simpa [nz] using hn) h2⟩
 | .ic t x,G,G',y,fr,hn,hr=>by
  simp only[RV] at hr⊢
  obtain ⟨h0,z,h1,h2⟩:=hr
  exact ⟨h0,z,h1,zGI x G G' z [] (by simpa [nz] using hn) h2⟩
theorem zEB {Z' : Nat→Prop}:∀(l:List HV) (G G' : List (Option OG)) (ys:List Value) (fr:List Nat),nzL l=true→RL Z G w l ys fr→RL Z' G' w l ys fr
 | [],G,G',ys,fr,hn,hr=>by simpa only[RL] using hr
 | h::t,G,G',ys,fr,hn,hr=>by
  simp only[nzL,Bool.and_eq_true] at hn
  simp only[RL] at hr⊢
  obtain ⟨y,ys',f1,f2,h1,h2,h3,h4⟩:=hr
  exact ⟨y,ys',f1,f2,h1,h2,zGI h G G' y f1 hn.1 h3,zEB t G G' ys' f2 hn.2 h4⟩
theorem zI0 {Z' : Nat→Prop}:∀(l:List HV) (G G' : List (Option OG)) (b k:Nat) (fr:List Nat),nzL l=true→RC Z G w l b k fr→RC Z' G' w l b k fr
 | [],G,G',b,k,fr,hn,hr=>by simpa only[RC] using hr
 | h::t,G,G',b,k,fr,hn,hr=>by
  simp only[nzL,Bool.and_eq_true] at hn
  simp only[RC] at hr⊢
  obtain ⟨y,f1,f2,h1,h2,h3,h4,h5⟩:=hr
  exact ⟨y,f1,f2,h1,h2,h3,zGI h G G' y f1 hn.1 h4,zI0 t G G' b (k+1) f2 hn.2 h5⟩
theorem zNf {Z' : Nat→Prop}:∀(l:List (List HV)) (G G' : List (Option OG)) (b k:Nat) (fr:List Nat),nzR l=true→RR Z G w l b k fr→RR Z' G' w l b k fr
 | [],G,G',b,k,fr,hn,hr=>by simpa only[RR] using hr
 | r::t,G,G',b,k,fr,hn,hr=>by
  simp only[nzR,Bool.and_eq_true] at hn
  simp only[RR] at hr⊢
  obtain ⟨f1,f2,h1,h2,h3⟩:=hr
  exact ⟨f1,f2,h1,zI0 r G G' b k f1 hn.1 h2,zNf t G G' b (k+r.length) f2 hn.2 h3⟩
end
end
section
variable {P:Program} {H:Heap}
theorem HInv.empty {Z:Nat→Prop} {w:World} (hz:∀b,Z b→b<w.heap.size) (hg:Globs Z w):HInv Z [] (fun _=>[]) [] w :=
 ⟨rfl,by simp,by simp,by simp,by simp,by simp,hz,by simp,by simp,hg⟩
theorem HCalls.lend {f:FuncId} {args:List HV} {Q:HV→Heap→Prop} (n:Nat) (h:HCalls P f [] (args.map (fz n H)) Q) (hq:∀r,Q r []→nz r=true):HCalls P f H args (fun r H'=>Q r []∧H'=H):=by
 refine ⟨h.1,fun Z G FP w vals hi ha=>?_⟩
 have hzlt:∀b,Zall Z FP b→b<w.heap.size:=by
  rintro b (hb | ⟨id,hb⟩)
  ·exact hi.zlt b hb
  ·exact hi.flt id b hb
 have ha' : RL (Zall Z FP) [] w (args.map (fz n H)) vals []:=zFA (fr:=[]) (fun h y g hg hr=>zId hi n h y g (fun b hb=>by have:=hg b hb;simp at this) hr) _ _ _ (by simp) ha
 refine Calls.mono (h.2 _ [] _ w vals (HInv.empty hzlt (hi.glob.keep (fun b hb=>.inl hb) (fun _ _=>rfl))) ha') ?_
 rintro e w' ⟨v,r,H',Z',G',FP',fr,rfl,hQ,hlen,hi',hr,hnd,hfr1,hfr2,hG,hE⟩
 have hH' : H'=[]:=List.eq_nil_of_length_eq_zero hlen
 subst hH'
 have hk:∀b,b<w.heap.size→w'.heap[b]?=w.heap[b]?:=fun b hb=>hE.keep b hb (by simp)
 refine ⟨v,r,H,Z,G,FP,fr,rfl,⟨hQ,rfl⟩,rfl,hi.keep hE.size (fun b hb=>hk b (hzlt b hb)),zGI r _ _ v fr (hq r hQ) hr,hnd,fun b hb=>?_,fun b hb=>?_,GLe.refl _,⟨hE.os,hE.tape,hE.output,hE.size,fun b hb _=>hk b hb,fun _ h=>h,fun _ h=>.inl h,fun id b hb=>.inr ⟨id,hb⟩⟩⟩
 ·obtain ⟨h1,h2,_⟩:=hfr1 b hb
  exact ⟨fun hz=>h1 (hE.zle b (.inl hz)),h2,fun id hc=>h1 (hE.zle b (.inr ⟨id,hc⟩))⟩
 ·rcases hfr2 b hb with h | ⟨id,h⟩
  ·exact .inl h
  ·simp at h
end
end Go.Proofs.YtoknohandclcbaaGreat
namespace Go.Proofs.YtoknohandclcbaaGreat
open Go.RowKit
mutual
def nm (m:Nat):HV→Bool
 | .hd id _ _=>decide (id<m)
 | .pt id _ _ _=>decide (id<m)
 | .ag cs=>nmL m cs
 | .tu cs=>nmL m cs
 | .fn _ cs=>nmL m cs
 | .ic _ x=>nm m x
 | .mp id=>decide (id<m)
 | .yl id=>decide (id<m)
 | _=>true
def nmL (m:Nat):List HV→Bool
 | []=>true
 | h::t=>nm m h && nmL m t
end
def nmR (m:Nat):List (List HV)→Bool
 | []=>true
 | r::t=>nmL m r && nmR m t
section
variable {Z:Nat→Prop} {w:World}
theorem zAO {α:Type} {l:List α} {m i:Nat} (h:i<m):(l.take m)[i]?=l[i]?:=by
 rw[List.getElem?_take,if_pos h]
mutual
theorem zBK:∀(h:HV) (m:Nat) (G:List (Option OG)) (y:Value) (fr:List Nat),nm m h=true→RV Z G w h y fr→RV Z (G.take m) w h y fr
 | .any,m,G,y,fr,hn,hr=>by simpa only[RV] using hr
 | .v x,m,G,y,fr,hn,hr=>by simpa only[RV] using hr
 | .sl rows,m,G,y,fr,hn,hr=>by simpa only[RV] using hr
 | .fp ..,m,G,y,fr,hn,hr=>by simpa only[RV] using hr
 | .ow ..,m,G,y,fr,hn,hr=>by simpa only[RV] using hr
 | .bx ..,m,G,y,fr,hn,hr=>by simpa only[RV] using hr
 | .ob _,m,G,y,fr,hn,hr=>by simp only[RV] at hr
 | .om ..,m,G,y,fr,hn,hr=>by simpa only[RV] using hr
 | .gv _,m,G,y,fr,hn,hr=>by simpa only[RV] using hr
 | .mp id,m,G,y,fr,hn,hr=>by
  simp only[nm,decide_eq_true_eq] at hn
  simp only[RV] at hr⊢
  obtain ⟨h1,h2,h3,h4⟩:=hr
  refine ⟨h1,h2,by simp;omega,fun g hg=>h4 g (by rwa [zAO hn] at hg)⟩
 | .yl id,m,G,y,fr,hn,hr=>by
  simp only[nm,decide_eq_true_eq] at hn
  simp only[RV] at hr⊢
  obtain ⟨h1,h3,l,h2,h4⟩:=hr
  refine ⟨h1,by simp;omega,l,h2,fun g hg=>h4 g (by rwa [zAO hn] at hg)⟩
 | .hd id off len,m,G,y,fr,hn,hr=>by
  simp only[nm,decide_eq_true_eq] at hn
  simp only[RV] at hr⊢
  obtain ⟨h1,h2,h3,h4⟩:=hr
  refine ⟨h1,h2,by simp;omega,fun g hg=>h4 g (by rwa [zAO hn] at hg)⟩
 | .pt id n r o,m,G,y,fr,hn,hr=>by
  simp only[nm,decide_eq_true_eq] at hn
  simp only[RV] at hr⊢
  obtain ⟨h1,h2,h3,h4⟩:=hr
  refine ⟨h1,h2,by simp;omega,fun g hg=>h4 g (by rwa [zAO hn] at hg)⟩
 | .ag cs,m,G,y,fr,hn,hr=>by
  simp only[RV] at hr⊢
  obtain ⟨ys,h1,h2⟩:=hr
  exact ⟨ys,h1,zAp cs m G _ fr (by simpa [nm] using hn) h2⟩
 | .tu cs,m,G,y,fr,hn,hr=>by
  simp only[RV] at hr⊢
  obtain ⟨ys,h1,h2⟩:=hr
  exact ⟨ys,h1,zAp cs m G _ fr (by simpa [nm] using hn) h2⟩
 | .fn f cs,m,G,y,fr,hn,hr=>by
  simp only[RV] at hr⊢
  obtain ⟨ys,h1,h2⟩:=hr
  exact ⟨ys,h1,zAp cs m G _ fr (by simpa [nm] using hn) h2⟩
 | .ic t x,m,G,y,fr,hn,hr=>by
  simp only[RV] at hr⊢
  obtain ⟨h0,z,h1,h2⟩:=hr
  exact ⟨h0,z,h1,zBK x m G z [] (by simpa [nm] using hn) h2⟩
theorem zAp:∀(l:List HV) (m:Nat) (G:List (Option OG)) (ys:List Value) (fr:List Nat),nmL m l=true→RL Z G w l ys fr→RL Z (G.take m) w l ys fr
 | [],m,G,ys,fr,hn,hr=>by simpa only[RL] using hr
 | h::t,m,G,ys,fr,hn,hr=>by
  simp only[nmL,Bool.and_eq_true] at hn
  simp only[RL] at hr⊢
  obtain ⟨y,ys',f1,f2,h1,h2,h3,h4⟩:=hr
  exact ⟨y,ys',f1,f2,h1,h2,zBK h m G y f1 hn.1 h3,zAp t m G ys' f2 hn.2 h4⟩
end
theorem zI3:∀(l:List HV) (m:Nat) (G:List (Option OG)) (b k:Nat) (fr:List Nat),nmL m l=true→RC Z G w l b k fr→RC Z (G.take m) w l b k fr
 | [],m,G,b,k,fr,hn,hr=>by simpa only[RC] using hr
 | h::t,m,G,b,k,fr,hn,hr=>by
  simp only[nmL,Bool.and_eq_true] at hn
  simp only[RC] at hr⊢
  obtain ⟨y,f1,f2,h1,h2,h3,h4,h5⟩:=hr
  exact ⟨y,f1,f2,h1,h2,h3,zBK h m G y f1 hn.1 h4,zI3 t m G b (k+1) f2 hn.2 h5⟩
theorem zI1:∀(l:List (List HV)) (m:Nat) (G:List (Option OG)) (b k:Nat) (fr:List Nat),nmR m l=true→RR Z G w l b k fr→RR Z (G.take m) w l b k fr
 | [],m,G,b,k,fr,hn,hr=>by simpa only[RR] using hr
 | r::t,m,G,b,k,fr,hn,hr=>by
  simp only[nmR,Bool.and_eq_true] at hn
  simp only[RR] at hr⊢
  obtain ⟨f1,f2,h1,h2,h3⟩:=hr
  exact ⟨f1,f2,h1,zI3 r m G b k f1 hn.1 h2,zI1 t m G b (k+r.length) f2 hn.2 h3⟩
theorem OB.trunc {G:List (Option OG)} {o:HObj} {g:OG} {fp:List Nat} (hob:OB Z G w o g fp) (m:Nat) (hn:nmR m o.rows=true):OB Z (G.take m) w o g fp :=
 ⟨hob.e,hob.sz,hob.n,hob.len,hob.at_.imp id (by
   rintro (⟨b,cells,f,h1,h2,h3,h4,h5,h6,h7⟩ | ⟨x,hs,obj,f,h1,h2,h3,h4,h5,h6⟩)
   ·exact .inl ⟨b,cells,f,h1,h2,h3,h4,h5,h6,zI1 _ m G b 0 f hn h7⟩
   ·rw[h2] at hn
    simp only[nmR,nmL,nm,Bool.and_true,Bool.true_and] at hn
    exact .inr ⟨x,hs,obj,f,h1,h2,h3,h4,h5,zAp hs m G _ f hn h6⟩)⟩
def nmH (m:Nat) (H:Heap):Bool:=(H.take m).all fun o=>match o with | some ob=>nmR m ob.rows | none=>true
theorem HInv.trunc {G:List (Option OG)} {FP:Nat→List Nat} {H:Heap} (h:HInv Z G FP H w) (m:Nat) (hm:nmH m H=true):HInv Z (G.take m) (fun j=>if j<m then FP j else []) (H.take m) w:=by
 have lt:∀{j:Nat} {x:Option HObj},(H.take m)[j]?=some x→j<m:=fun hj=>by
  have:=(List.getElem?_eq_some_iff.1 hj).1;simp at this;omega
 refine ⟨by simp[h.len],fun j hj=>?_,fun j hj=>?_,fun j o hj=>?_,fun j=>?_,fun i j b hi hj=>?_,h.zlt,fun j b hb=>?_,fun j b hb=>?_,h.glob⟩
 ·have:=lt hj;rw[zAO this] at hj⊢;exact h.dead j hj
 ·by_cases e:j<m
  ·simp only[if_pos e];exact h.nofp j (fun o=>by have:=hj o;rwa [zAO e] at this)
  ·simp[e]
 ·have e:=lt hj
  rw[zAO e] at hj
  obtain ⟨g,hg,hob⟩:=h.live j o hj
  refine ⟨g,by rw[zAO e];exact hg,?_⟩
  simp only[if_pos e]
  have hn:nmR m o.rows=true:=by
   have:=List.all_eq_true.1 hm (some o) (List.mem_of_getElem? (by rw[zAO e];exact hj))
   simpa using this
  exact hob.trunc m hn
 ·by_cases e:j<m
  ·simp only[if_pos e];exact h.nodup j
  ·simp[e]
 ·by_cases e1:i<m
  ·by_cases e2:j<m
   ·simp only[if_pos e1] at hi;simp only[if_pos e2] at hj;exact h.disj i j b hi hj
   ·simp[e2] at hj
  ·simp[e1] at hi
 ·by_cases e:j<m
  ·simp only[if_pos e] at hb;exact h.flt j b hb
  ·simp[e] at hb
 ·by_cases e:j<m
  ·simp only[if_pos e] at hb;exact h.zfp j b hb
  ·simp[e] at hb
theorem GLt.take {L m:Nat} {G:List (Option OG)} (hm:L≤m) (hL:L≤G.length):GLt L G (G.take m) :=
 ⟨by simp;omega,fun id hid=>.inr (.inl (zAO (by omega)))⟩
end
def Ghost (N L:Nat) (T:Nat→HV) (H:Heap) (T' : Nat→HV) (H' : Heap):Prop :=
 ∀B Z G FP ds a w,L≤G.length→St N B Z G FP ds T H a w→∃Z' G' FP',St N B Z' G' FP' ds T' H' a w∧GLt L G G'∧Evo Z FP w Z' FP' w
section
variable {P:Program} {N L:Nat} {T T' T'' : Nat→HV} {H H' H'' : Heap} {Q:Exit→(Nat→HV)→Heap→Prop}
theorem Ghost.refl:Ghost N L T H T H:=fun B Z G FP ds a w hL hs=>⟨Z,G,FP,hs,GLt.refl hL,Evo.refl _ _ _⟩
theorem Ghost.trans (h:Ghost N L T H T' H') (k:Ghost N L T' H' T'' H''):Ghost N L T H T'' H'':=fun B Z G FP ds a w hL hs=>by
 obtain ⟨Z1,G1,FP1,h1,h2,h3⟩:=h B Z G FP ds a w hL hs
 obtain ⟨Z2,G2,FP2,k1,k2,k3⟩:=k B Z1 G1 FP1 ds a w h2.len h1
 exact ⟨Z2,G2,FP2,k1,h2.trans k2,h3.trans k3⟩
theorem HW.ghost {c:Code} (g:Ghost N L T H T' H') (h:HW P N L c Q T' H'):HW P N L c Q T H:=by
 intro ro n B Z G FP ds a w hB hL hs
 obtain ⟨Z1,G1,FP1,h1,h2,h3⟩:=g B Z G FP ds a w hL hs
 refine wpIn_mono (h ro n B Z1 G1 FP1 ds a w (hB.evo h3) h2.len h1) ?_
 rintro e a' w' ⟨T'',H'',Z'',G'',FP'',ds'',k1,k2,k3,k4⟩
 exact ⟨T'',H'',Z'',G'',FP'',ds'',k1,k2,h2.trans k3,h3.trans k4⟩
def GQ (N L:Nat) (R:(Nat→HV)→Heap→Prop) (T:Nat→HV) (H:Heap):Prop:=∃T' H',Ghost N L T H T' H'∧R T' H'
theorem HW.weaken {c:Code} {Q' : Exit→(Nat→HV)→Heap→Prop} (h:HW P N L c Q' T H) (hq:∀e T H,Q' e T H→GQ N L (Q e) T H):HW P N L c Q T H:=by
 intro ro n B Z G FP ds a w hB hL hs
 refine wpIn_mono (h ro n B Z G FP ds a w hB hL hs) ?_
 rintro e a' w' ⟨T',H',Z',G',FP',ds',k1,k2,k3,k4⟩
 obtain ⟨T'',H'',g,hq'⟩:=hq e T' H' k1
 obtain ⟨Z1,G1,FP1,h1,h2,h3⟩:=g B Z' G' FP' ds' a' w' k3.len k2
 exact ⟨T'',H'',Z1,G1,FP1,ds',hq',h1,k3.trans h2,k4.trans h3⟩
theorem HW.loopG {c:Code} (I:Nat→(Nat→HV)→Heap→Prop) (k0:Nat) (h0:GQ N L (I k0) T H)
  (round:∀k T H,I k T H→HW P N L c (fin (GQ N L fun T' H'=>∃k',k' < k∧I k' T' H') Q) T H):HW P N L (.loop c) Q T H:=by
 obtain ⟨T0,H0,g,hI⟩:=h0
 refine HW.ghost g (HW.loop I k0 hI fun k T H hk=>HW.weaken (round k T H hk) ?_)
 intro e T H hq
 cases e with
 | normal=>exact hq
 | _=>exact ⟨T,H,Ghost.refl,hq⟩
def zZZ (ks:List Nat) (T:Nat→HV):Nat→HV:=fun i=>if ks.contains i=true then T i else .any
theorem Ghost.trunc (ks:List Nat) (m:Nat) (hm:L≤m) (hk:(ks.all fun i=>nm m (T i))=true) (hH:nmH m H=true):Ghost N L T H (zZZ ks T) (H.take m):=fun B Z G FP ds a w hL hs=>by
 refine ⟨Z,G.take m,fun j=>if j<m then FP j else [],⟨hs.inv.trunc m hH,hs.size,fun i hi=>?_,hs.defers,hs.dsn,fun d hd=>?_⟩,GLt.take hm hL,⟨rfl,rfl,rfl,Nat.le_refl _,fun _ _ _=>rfl,fun _ h=>h,fun _ h=>.inl h,fun j b hb=>?_⟩⟩
 ·unfold zZZ
  split
  ·rename_i hin;exact zBK _ m G _ [] (List.all_eq_true.1 hk i (by simpa using hin)) (hs.tmps i hi)
  ·simp[RV]
 ·obtain ⟨h1,h2,h3,h4⟩:=hs.dsat d hd
  refine ⟨h1,h2,h3,fun j hj=>?_⟩
  by_cases e:j<m
  ·simp only[if_pos e] at hj;exact h4 j hj
  ·simp[e] at hj
 ·by_cases e:j<m
  ·simp only[if_pos e] at hb;exact .inr ⟨j,hb⟩
  ·simp[e] at hb
theorem Ghost.nil (i:Nat) (e:TypeId) (sz:Nat) (hi:T i=.v (.slice none 0 0)):Ghost N L T H (upd T i (.hd H.length 0 0)) (H++[some ⟨e,sz,[]⟩]):=fun B Z G FP ds a w hL hs=>by
 have hinv:=hs.inv.new (w':=w) (o:=⟨e,sz,[]⟩) (g:=⟨none,e,sz,0,0⟩) (fp:=[]) (Nat.le_refl _) (fun _ _=>rfl) ⟨rfl,rfl,rfl,by simp,.inl ⟨rfl,rfl,rfl⟩⟩ (by simp) (by simp)
 have hE:Evo Z FP w Z (fun j=>if j=H.length then [] else FP j) w:=zG7 (hs.inv.nofp _ (by simp)) rfl rfl rfl (Nat.le_refl _) (fun _ _=>rfl) (by simp)
 have hs':=hs.evo hinv (GLe.more _) hE
 refine ⟨Z,_,_,⟨hs'.inv,hs'.size,fun j hj=>?_,hs'.defers,hs'.dsn,hs'.dsat⟩,GLt.of hL (GLe.more _),hE⟩
 unfold upd
 split
 ·rename_i hji
  subst hji
  have h0:=hs.tmps j hj
  rw[hi] at h0
  rw[RV_v h0]
  simp only[RV]
  rw[←hs.inv.len]
  refine ⟨trivial,rfl,by simp,fun g hg=>?_⟩
  simp at hg;subst hg
  exact ⟨Nat.le_refl _,fun _=>⟨rfl,rfl,rfl⟩⟩
 ·exact hs'.tmps j hj
def absorb (H:Heap) (id r c:Nat):Heap :=
 match H[id]? with
 | some (some ob) =>
  match ob.rows[r]? with
  | some row =>
   match row[c]? with
   | some (.hd j 0 len) =>
    match H[j]? with
    | some (some oj)=>if j≠id∧len=oj.rows.length∧nmR 0 oj.rows=true then (H.set j none).set id (some { ob with rows:=ob.rows.set r (row.set c (.ow oj.e oj.sz oj.rows)) }) else H
    | _=>H
   | some (.pt j 1 0 0) =>
    match H[j]? with
    | some (some oj) =>
     match oj.rows with
     | [rw]=>if j≠id∧nmL 0 rw=true then (H.set j none).set id (some { ob with rows:=ob.rows.set r (row.set c (.bx oj.e oj.sz rw)) }) else H
     | _=>H
    | _=>H
   | some (.mp j) =>
    match H[j]? with
    | some (some oj) =>
     match oj.rows with
     | [.ob x::hs]=>if j≠id∧nmL 0 hs=true then (H.set j none).set id (some { ob with rows:=ob.rows.set r (row.set c (.om x hs)) }) else H
     | _=>H
    | _=>H
   | _=>H
  | none=>H
 | _=>H
end
section
variable {Z:Nat→Prop} {G:List (Option OG)} {FP:Nat→List Nat} {H:Heap} {w:World}
theorem zYS {id len:Nat} {oj:HObj} {y:Value} (hi:HInv Z G FP H w) (ho:H[id]?=some (some oj)) (hlen:len=oj.rows.length) (hn:nmR 0 oj.rows=true) (hv:RV Z G w (.hd id 0 len) y []) (G' : List (Option OG)):RV Z G' w (.ow oj.e oj.sz oj.rows) y (FP id):=by
 obtain ⟨g,hg,hOB,hview⟩:=zEK hi ho (by omega) hv
 simp only[RV]
 unfold View at hview
 split at hview
 ·rename_i hbn
  obtain ⟨hview,hv1,hv2⟩:=hview
  rcases hOB.at_ with ⟨_,e1,e2⟩ | ⟨b,cells,f,e1,_⟩ | ⟨u3,hs3,obj3,f3,e1,e3,_⟩
  ·exact .inl ⟨e1,hview,e2⟩
  ·rw[hbn] at e1;cases e1
  ·have:=congrArg List.length e3;simp only[List.length_cons,List.length_nil] at this;omega
 ·rename_i b hb
  obtain ⟨ad,hy,hA⟩:=hview
  obtain ⟨b',cells,f,e1,e2,e3,e4,e5,e6,e7⟩:=hOB.cells_ hb
  rw[hb] at e1;cases e1
  have:=zI1 _ 0 G b 0 f hn e7
  rw[List.take_zero] at this
  exact .inr ⟨b,g.cap,cells,f,by rw[hy,hA (.inr rfl),hlen];simp,e2,e3,e4,e5,e6,hOB.len,this⟩
theorem zYU {id:Nat} {oj:HObj} {row:List HV} {y:Value} (hi:HInv Z G FP H w) (ho:H[id]?=some (some oj)) (hrow:oj.rows=[row]) (hn:nmL 0 row=true) (hv:RV Z G w (.pt id 1 0 0) y []) (G' : List (Option OG)):RV Z G' w (.bx oj.e oj.sz row) y (FP id):=by
 obtain ⟨g,b,cells,f,hg,hOB,hb,hf,hh,hc,hcap,hml,hrr,hy,hrl⟩:=zPM hi ho (n:=1) (r:=0) (o:=0) (by rw[hrow];rfl) (row:=row) (by rw[hrow];rfl) hv
 simp only[RV]
 rw[hrow] at hrr hcap
 simp only[RR] at hrr
 obtain ⟨f1,f2,hf12,h1,h2⟩:=hrr
 subst h2
 rw[List.append_nil] at hf12
 subst hf12
 have:=zI3 row 0 G b 0 f hn h1
 rw[List.take_zero] at this
 exact ⟨b,g.cap,cells,f,by rw[hy];simp,hf,hh,hc,by simpa using hcap,hml,hrl,this⟩
theorem zYT {id:Nat} {oj:HObj} {x:Obj} {hs:List HV} {y:Value} (hi:HInv Z G FP H w) (ho:H[id]?=some (some oj)) (hrow:oj.rows=[.ob x::hs]) (hn:nmL 0 hs=true) (hv:RV Z G w (.mp id) y []) (G' : List (Option OG)):RV Z G' w (.om x hs) y (FP id):=by
 obtain ⟨g,hg,hOB⟩:=hi.live id oj ho
 simp only[RV] at hv⊢
 obtain ⟨_,_,_,hv⟩:=hv
 rcases hOB.at_ with ⟨_,e1,_⟩ | ⟨b,cells,f,e1,e2,e3,e4,e5,e6,e7⟩ | ⟨x',hs',obj,f,e1,e2,e3,e4,e5,e6⟩
 ·rw[hrow] at e1;cases e1
 ·rw[hrow] at e7
  simp only[RR,RC,RV] at e7
  obtain ⟨_,_,_,⟨_,_,_,_,_,_,h,_⟩,_⟩:=e7
  exact h.elim
 ·rw[hrow] at e2
  cases e2
  have hy:=(hv g hg).2 (by rw[hOB.n,hrow];rfl) e1
  have:=zAp hs 0 G _ f hn e6
  rw[List.take_zero] at this
  exact ⟨g.cap,obj,f,hy,e3,e4,e5,this⟩
theorem zDi {id j r c:Nat} {ob oj:HObj} {row:List HV} {x h' : HV} (hi:HInv Z G FP H w) (ho:H[id]?=some (some ob)) (hr:ob.rows[r]?=some row) (hc:row[c]?=some x) (hj:H[j]?=some (some oj)) (hne:j≠id)
  (hx:∀y,RV Z G w x y []→∀G',RV Z G' w h' y (FP j)) (htv:tv x=true) (hnb:∀u,x≠.ob u) :
  ∃G' FP',HInv Z G' FP' ((H.set j none).set id (some { ob with rows:=ob.rows.set r (row.set c h') })) w∧GLe G G'∧Evo Z FP w Z FP' w:=by
 have k1:=hi.kill j
 have hoj:(H.set j none)[id]?=some (some ob):=by rw[List.getElem?_set_ne hne];exact ho
 obtain ⟨g,hg0,hOB⟩:=hi.live id ob ho
 have hg:(G.set j none)[id]?=some (some g):=by rw[List.getElem?_set_ne hne];exact hg0
 obtain ⟨y,fx,fa,hv,hperm,hsw⟩:=hOB.swap hr hc hnb
 have hfx:fx=[]:=zCt x y fx htv hv
 subst hfx
 obtain ⟨fp',hOB',hp'⟩:=hsw (G.set j none) h' (FP j) (GLe.kill j) (hx y hv _)
 simp only[List.nil_append] at hperm
 have hndj:=hi.nodup j
 have hndi:=hi.nodup id
 have hdis:∀b,b∈FP j→b∈FP id→False:=fun b h1 h2=>hne (hi.disj j id b h1 h2)
 have hnd' : fp'.Nodup:=by
  rw[hp'.nodup_iff]
  exact List.nodup_append.2 ⟨hndj,hperm.nodup_iff.1 hndi,fun a ha b hb e=>by subst e;exact hdis a ha (hperm.mem_iff.2 hb)⟩
 have hmem:∀b∈fp',b∈FP j∨b∈FP id:=fun b hb=>by
  rcases List.mem_append.1 (hp'.mem_iff.1 hb) with h | h
  ·exact .inl h
  ·exact .inr (hperm.mem_iff.2 h)
 have i2:=k1.say hoj hg hOB' hnd' (fun b hb=>by
  rcases hmem b hb with h | h
  ·refine ⟨hi.zfp j b h,hi.flt j b h,fun q hq hc=>?_⟩
   by_cases e:q=j
   ·simp[e] at hc
   ·simp only[if_neg e] at hc;exact e (hi.disj q j b hc h)
  ·refine ⟨hi.zfp id b h,hi.flt id b h,fun q hq hc=>?_⟩
   by_cases e:q=j
   ·simp[e] at hc
   ·simp only[if_neg e] at hc;exact hq (hi.disj q id b hc h))
 refine ⟨_,_,i2,GLe.kill j,⟨rfl,rfl,rfl,Nat.le_refl _,fun _ _ _=>rfl,fun _ h=>h,fun _ h=>.inl h,fun q b hb=>?_⟩⟩
 by_cases e:q=id
 ·simp only[if_pos e] at hb
  rcases hmem b hb with h | h
  ·exact .inr ⟨_,h⟩
  ·exact .inr ⟨_,h⟩
 ·simp only[if_neg e] at hb
  by_cases e2:q=j
  ·simp[e2] at hb
  ·simp only[if_neg e2] at hb;exact .inr ⟨q,hb⟩
theorem zQg (hi:HInv Z G FP H w) (id r c:Nat):∃G' FP',HInv Z G' FP' (absorb H id r c) w∧GLe G G'∧Evo Z FP w Z FP' w:=by
 have none:∃G' FP',HInv Z G' FP' H w∧GLe G G'∧Evo Z FP w Z FP' w:=⟨G,FP,hi,GLe.refl _,Evo.refl _ _ _⟩
 unfold absorb
 split
 ·rename_i ob ho
  split
  ·rename_i row hr
   split
   ·rename_i j len hc
    split
    ·rename_i oj hj
     split
     ·rename_i hcond
      exact zDi hi ho hr hc hj hcond.1 (fun y hv G'=>zYS hi hj hcond.2.1 hcond.2.2 hv G') rfl (by simp)
     ·exact none
    ·exact none
   ·rename_i j hc
    split
    ·rename_i oj hj
     split
     ·rename_i rw' hrw
      split
      ·rename_i hcond
       exact zDi hi ho hr hc hj hcond.1 (fun y hv G'=>zYU hi hj hrw hcond.2 hv G') rfl (by simp)
      ·exact none
     ·exact none
    ·exact none
   ·rename_i j hc
    split
    ·rename_i oj hj
     split
     ·rename_i x hs hrw
      split
      ·rename_i hcond
       exact zDi hi ho hr hc hj hcond.1 (fun y hv G'=>zYT hi hj hrw hcond.2 hv G') rfl (by simp)
      ·exact none
     ·exact none
    ·exact none
   ·exact none
  ·exact none
 ·exact none
theorem Ghost.absorb {N L:Nat} {T:Nat→HV} (id r c:Nat):Ghost N L T H T (absorb H id r c):=fun B Z G FP ds a w hL hs=>by
 obtain ⟨G',FP',h1,h2,h3⟩:=zQg hs.inv id r c
 exact ⟨Z,G',FP',hs.evo h1 h2 h3,GLt.of hL h2,h3⟩
end
end Go.Proofs.YtoknohandclcbaaGreat
namespace Go.Proofs.YtoknohandclcbaaGreat
open Go.RowKit
mutual
def zAl (L:Nat):HV→Heap→HV×Heap
 | .hd id off len,H =>
  if id<L then (.hd id off len,H)
  else match H[id]? with
   | some (some ob)=>if off=0∧len=ob.rows.length∧nmR 0 ob.rows=true then (.ow ob.e ob.sz ob.rows,H.set id none) else (.any,H)
   | _=>(.any,H)
 | .pt id n r o,H =>
  if id<L then (.pt id n r o,H)
  else match H[id]? with
   | some (some ob) =>
    match ob.rows with
    | [row]=>if n=1∧r=0∧o=0∧nmL 0 row=true then (.bx ob.e ob.sz row,H.set id none) else (.any,H)
    | _=>(.any,H)
   | _=>(.any,H)
 | .ag cs,H=>(.ag (zEc L cs H).1,(zEc L cs H).2)
 | .tu cs,H=>(.tu (zEc L cs H).1,(zEc L cs H).2)
 | .fn f cs,H=>(.fn f (zEc L cs H).1,(zEc L cs H).2)
 | .ic t x,H=>if nm L x=true then (.ic t x,H) else (.any,H)
 | .mp id,H =>
  if id<L then (.mp id,H)
  else match H[id]? with
   | some (some ob) =>
    match ob.rows with
    | [.ob x::hs]=>if nmL 0 hs=true then (.om x hs,H.set id none) else (.any,H)
    | _=>(.any,H)
   | _=>(.any,H)
 | .yl id,H=>if id<L then (.yl id,H) else (.any,H)
 | x,H=>(x,H)
def zEc (L:Nat):List HV→Heap→List HV×Heap
 | [],H=>([],H)
 | h::t,H=>((zAl L h H).1::(zEc L t (zAl L h H).2).1,(zEc L t (zAl L h H).2).2)
end
theorem GLe.take {G G' : List (Option OG)} (h:GLe G G') (m:Nat):GLe (G.take m) (G'.take m):=by
 refine ⟨by have:=h.len;simp;omega,fun id hid=>?_⟩
 have h1:id<m:=by simp at hid;omega
 have h2:id<G.length:=by simp at hid;omega
 rw[zAO h1,zAO h1]
 exact h.at_ id h2
structure Packed (Z:Nat→Prop) (G:List (Option OG)) (FP:Nat→List Nat) (w:World) (fr:List Nat) (G' : List (Option OG)) (FP' : Nat→List Nat) (H' : Heap):Prop where
 inv:HInv Z G' FP' H' w
 le:GLe G G'
 nodup:fr.Nodup
 fr:∀b∈fr,(∃id,b∈FP id)∧∀id,b∉FP' id
 fp:∀id b,b∈FP' id→b∈FP id
section
variable {Z:Nat→Prop} {w:World}
theorem Packed.nil {G:List (Option OG)} {FP:Nat→List Nat} {H:Heap} (hi:HInv Z G FP H w):Packed Z G FP w [] G FP H :=
 ⟨hi,GLe.refl _,by simp,by simp,fun _ _ h=>h⟩
theorem Packed.kill {G:List (Option OG)} {FP:Nat→List Nat} {H:Heap} (hi:HInv Z G FP H w) (id:Nat):Packed Z G FP w (FP id) (G.set id none) (fun j=>if j=id then [] else FP j) (H.set id none):=by
 refine ⟨hi.kill id,GLe.kill id,hi.nodup id,fun b hb=>⟨⟨id,hb⟩,fun j hj=>?_⟩,fun j b hb=>?_⟩
 ·by_cases e:j=id
  ·simp[e] at hj
  ·simp only[if_neg e] at hj;exact e (hi.disj j id b hj hb)
 ·by_cases e:j=id
  ·simp[e] at hb
  ·simpa only[if_neg e] using hb
mutual
theorem zEb {L:Nat}:∀(h:HV) (G:List (Option OG)) (FP:Nat→List Nat) (H:Heap) (y:Value),HInv Z G FP H w→RV Z G w h y []→
  ∃G' FP' fr,Packed Z G FP w fr G' FP' (zAl L h H).2∧RV Z (G'.take L) w (zAl L h H).1 y fr
 | .any,G,FP,H,y,hi,hr=>⟨G,FP,[],.nil hi,by simp[zAl,RV]⟩
 | .v x,G,FP,H,y,hi,hr=>⟨G,FP,[],.nil hi,by simpa only[zAl,RV] using hr⟩
 | .sl rows,G,FP,H,y,hi,hr=>⟨G,FP,[],.nil hi,by simpa only[zAl,RV] using hr⟩
 | .fp ..,G,FP,H,y,hi,hr=>⟨G,FP,[],.nil hi,by simpa only[zAl,RV] using hr⟩
 | .ow ..,G,FP,H,y,hi,hr=>⟨G,FP,[],.nil hi,by simpa only[zAl,RV] using hr⟩
 | .bx ..,G,FP,H,y,hi,hr=>⟨G,FP,[],.nil hi,by simpa only[zAl,RV] using hr⟩
 | .ob _,G,FP,H,y,hi,hr=>by simp only[RV] at hr
 | .om ..,G,FP,H,y,hi,hr=>⟨G,FP,[],.nil hi,by simpa only[zAl,RV] using hr⟩
 | .gv _,G,FP,H,y,hi,hr=>⟨G,FP,[],.nil hi,by simpa only[zAl,RV] using hr⟩
 | .mp id,G,FP,H,y,hi,hr=>by
  unfold zAl
  split
  ·rename_i hlt
   exact ⟨G,FP,[],.nil hi,zBK _ L G y [] (by simpa [nm] using hlt) hr⟩
  ·split
   ·rename_i ob ho
    split
    ·rename_i x hs hrow
     split
     ·rename_i h3
      exact ⟨_,_,_,.kill hi id,zYT hi ho hrow h3 hr _⟩
     ·exact ⟨G,FP,[],.nil hi,by simp[RV]⟩
    ·exact ⟨G,FP,[],.nil hi,by simp[RV]⟩
   ·exact ⟨G,FP,[],.nil hi,by simp[RV]⟩
 | .yl id,G,FP,H,y,hi,hr=>by
  unfold zAl
  split
  ·rename_i hlt
   exact ⟨G,FP,[],.nil hi,zBK _ L G y [] (by simpa [nm] using hlt) hr⟩
  ·exact ⟨G,FP,[],.nil hi,by simp[RV]⟩
 | .hd id off len,G,FP,H,y,hi,hr=>by
  unfold zAl
  split
  ·rename_i hlt
   exact ⟨G,FP,[],.nil hi,zBK _ L G y [] (by simpa [nm] using hlt) hr⟩
  ·split
   ·rename_i ob ho
    split
    ·rename_i hc
     obtain ⟨rfl,h2,h3⟩:=hc
     exact ⟨_,_,_,.kill hi id,zYS hi ho h2 h3 hr _⟩
    ·exact ⟨G,FP,[],.nil hi,by simp[RV]⟩
   ·exact ⟨G,FP,[],.nil hi,by simp[RV]⟩
 | .pt id n r o,G,FP,H,y,hi,hr=>by
  unfold zAl
  split
  ·rename_i hlt
   exact ⟨G,FP,[],.nil hi,zBK _ L G y [] (by simpa [nm] using hlt) hr⟩
  ·split
   ·rename_i ob ho
    split
    ·rename_i row hrow
     split
     ·rename_i hc
      obtain ⟨rfl,rfl,rfl,h3⟩:=hc
      exact ⟨_,_,_,.kill hi id,zYU hi ho hrow h3 hr _⟩
     ·exact ⟨G,FP,[],.nil hi,by simp[RV]⟩
    ·exact ⟨G,FP,[],.nil hi,by simp[RV]⟩
   ·exact ⟨G,FP,[],.nil hi,by simp[RV]⟩
 | .ag cs,G,FP,H,y,hi,hr=>by
  simp only[RV] at hr
  obtain ⟨ys,rfl,h⟩:=hr
  obtain ⟨G',FP',fr,h1,h2⟩:=zCz cs G FP H _ hi h
  exact ⟨G',FP',fr,h1,by simp only[zAl,RV];exact ⟨ys,rfl,h2⟩⟩
 | .tu cs,G,FP,H,y,hi,hr=>by
  simp only[RV] at hr
  obtain ⟨ys,rfl,h⟩:=hr
  obtain ⟨G',FP',fr,h1,h2⟩:=zCz cs G FP H _ hi h
  exact ⟨G',FP',fr,h1,by simp only[zAl,RV];exact ⟨ys,rfl,h2⟩⟩
 | .fn f cs,G,FP,H,y,hi,hr=>by
  simp only[RV] at hr
  obtain ⟨ys,rfl,h⟩:=hr
  obtain ⟨G',FP',fr,h1,h2⟩:=zCz cs G FP H _ hi h
  exact ⟨G',FP',fr,h1,by simp only[zAl,RV];exact ⟨ys,rfl,h2⟩⟩
 | .ic t x,G,FP,H,y,hi,hr=>by
  unfold zAl
  split
  ·rename_i hn
   exact ⟨G,FP,[],.nil hi,zBK _ L G y [] (by simpa [nm] using hn) hr⟩
  ·exact ⟨G,FP,[],.nil hi,by simp[RV]⟩
theorem zCz {L:Nat}:∀(l:List HV) (G:List (Option OG)) (FP:Nat→List Nat) (H:Heap) (ys:List Value),HInv Z G FP H w→RL Z G w l ys []→
  ∃G' FP' fr,Packed Z G FP w fr G' FP' (zEc L l H).2∧RL Z (G'.take L) w (zEc L l H).1 ys fr
 | [],G,FP,H,ys,hi,hr=>⟨G,FP,[],.nil hi,by simpa only[zEc,RL] using hr⟩
 | h::t,G,FP,H,ys,hi,hr=>by
  simp only[RL] at hr
  obtain ⟨y,ys',f1,f2,rfl,hf,h1,h2⟩:=hr
  obtain ⟨rfl,rfl⟩:=List.append_eq_nil_iff.1 hf.symm
  obtain ⟨G1,FP1,fr1,p1,r1⟩:=zEb (L:=L) h G FP H y hi h1
  obtain ⟨G2,FP2,fr2,p2,r2⟩:=zCz (L:=L) t G1 FP1 _ ys' p1.inv (RL.keep (fun _ _=>rfl) (fun _ h=>h) p1.le _ _ _ (fun _ _=>rfl) h2)
  refine ⟨G2,FP2,fr1++fr2,⟨p2.inv,p1.le.trans p2.le,List.nodup_append.2 ⟨p1.nodup,p2.nodup,fun a ha b hb e=>?_⟩,fun b hb=>?_,fun id b hb=>p1.fp id b (p2.fp id b hb)⟩,?_⟩
  ·subst e
   obtain ⟨⟨id,h3⟩,_⟩:=p2.fr a hb
   exact (p1.fr a ha).2 id h3
  ·rcases List.mem_append.1 hb with hb | hb
   ·exact ⟨(p1.fr b hb).1,fun id hc=>(p1.fr b hb).2 id (p2.fp id b hc)⟩
   ·obtain ⟨⟨id,h3⟩,h4⟩:=p2.fr b hb
    exact ⟨⟨id,p1.fp id b h3⟩,h4⟩
  ·simp only[zEc,RL]
   exact ⟨y,ys',fr1,fr2,rfl,rfl,RV.keep (fun _ _=>rfl) (fun _ h=>h) (p2.le.take L) _ _ _ (fun _ _=>rfl) r1,r2⟩
end
end
def retV (res:List Nat) (T:Nat→HV):HV :=
 match res with
 | [i]=>T i
 | l=>.tu (l.map T)
def zFF:List ResultVar→List Nat→Bool
 | [],[]=>true
 | .tmp i::r,j::s=>i == j && zFF r s
 | _,_=>false
def fnOk (fn:Func) (N:Nat) (res:List Nat) (k:Nat):Bool:=!(fn.name == "runtime.NumGoroutine") && fn.ntmps == N && zFF fn.results.toList res && res.all (fun i=>decide (i<N)) && Nat.ble k N
def T0 (args:List HV):Nat→HV:=fun i=>args.getD i .any
def endP (L:Nat) (Q:HV→Heap→Prop) (x:HV×Heap):Prop:=nmH L x.2=true∧Q x.1 (x.2.take L)
def endQ (res:List Nat) (L:Nat) (Q:HV→Heap→Prop) (e:Exit) (T:Nat→HV) (H:Heap):Prop :=
 match e with
 | .normal=>endP L Q (zAl L (retV res T) H)
 | .ret=>endP L Q (zAl L (retV res T) H)
 | _=>False
section
variable {P:Program} {Z:Nat→Prop} {w:World}
theorem zFz:∀(r:List ResultVar) (s:List Nat),zFF r s=true→r=s.map .tmp
 | [],[],_=>rfl
 | .tmp i::r,j::s,h=>by
  simp only[zFF,Bool.and_eq_true,beq_iff_eq] at h
  rw[h.1,zFz r s h.2];rfl
 | [],_::_,h=>by simp[zFF] at h
 | .cell _ _::_,[],h=>by simp[zFF] at h
 | .cell _ _::_,_::_,h=>by simp[zFF] at h
 | .tmp _::_,[],h=>by simp[zFF] at h
theorem zV8 {fn:Func} {res:List Nat} {N:Nat} {G:List (Option OG)} {T:Nat→HV} {tmps:Array Value} (hres:fn.results.toList=res.map .tmp) (hok:∀i∈res,i<N) (hs:∀i,i<N→RV Z G w (T i) (tmps.getD i undef) []):∃v,(results fn tmps).run P w=.ok v w∧RV Z G w (retV res T) v []:=by
 have key:∀l:List Nat,(∀i∈l,i<N)→((l.map ResultVar.tmp).mapM (m:=Sem) fun r=>match r with
   | .tmp t=>pure (tmps.getD t undef)
   | .cell a t=>do loadVar t (←asAddr (tmps.getD a undef))).run P w=.ok (l.map fun i=>tmps.getD i undef) w∧RL Z G w (l.map T) (l.map fun i=>tmps.getD i undef) []:=by
  intro l
  induction l with
  | nil=>intro _;exact ⟨by simp,by simp[RL]⟩
  | cons i l ih =>
   intro h
   obtain ⟨h1,h2⟩:=ih (fun x hx=>h x (by simp[hx]))
   refine ⟨?_,?_⟩
   ·rw[List.map_cons,List.mapM_cons]
    simp only[Sem.run_bind,Sem.run_pure,Result.andThen_ok,h1,List.map_cons]
   ·simp only[List.map_cons,RL]
    exact ⟨_,_,[],[],rfl,rfl,hs i (h i (by simp)),h2⟩
 obtain ⟨h1,h2⟩:=key res hok
 have hrun:(fn.results.mapM (m:=Sem) fun r=>match r with
   | .tmp t=>pure (tmps.getD t undef)
   | .cell a t=>do loadVar t (←asAddr (tmps.getD a undef))).run P w=.ok (res.map fun i=>tmps.getD i undef).toArray w:=by
  rw[Array.mapM_eq_mapM_toList,hres]
  simp only[map_eq_pure_bind,Sem.run_bind,h1,Result.andThen_ok,Sem.run_pure]
 unfold results
 simp only[Sem.run_bind]
 erw [hrun]
 simp only[Result.andThen_ok,Sem.run_pure]
 refine ⟨_,rfl,?_⟩
 unfold retV
 split
 ·rename_i i
  have:=hs i (hok i (by simp))
  simpa using this
 ·rename_i hne
  split
  ·rename_i h1'
   exfalso
   have hl1:res.length=1:=by simpa using h1'
   match res,hl1,hne with
   | [i],_,hne=>exact hne i rfl
  ·simp only[RV]
   exact ⟨_,rfl,h2⟩
theorem zGq {G:List (Option OG)} {args:List HV} {vals:List Value} (n:Nat) (h:RL Z G w args vals []):∀i,i<n→RV Z G w (T0 args i) ((vals.toArray++Array.replicate (n-vals.toArray.size) undef).getD i undef) []:=by
 intro i hi
 have hl:=zS _ _ _ h
 unfold T0
 by_cases hlt:i<args.length
 ·obtain ⟨y,f,hy,hr,hsub⟩:=zOS _ _ _ h i args[i] (by simp[hlt])
  have:f=[]:=List.eq_nil_of_sublist_nil hsub
  subst this
  have e1:args.getD i .any=args[i]:=by simp[hlt]
  have e2:(vals.toArray++Array.replicate (n-vals.toArray.size) undef).getD i undef=y:=by
   rw[Array.getD_eq_getD_getElem?,Array.getElem?_append_left (by simp;omega)]
   simp[hy]
  rw[e1,e2];exact hr
 ·have e1:args.getD i .any=.any:=by simp[List.getD_eq_getElem?_getD,List.getElem?_eq_none (Nat.le_of_not_lt hlt)]
  rw[e1]
  simp[RV]
theorem zBt {ro:Option Nat} {n:Nat} {fn:Func} {tmps:Array Value} {R:Ending→World→Prop}:∀(ds:List Nat) (w:World),ds.Nodup→(∀d∈ds,w.heap[d]?=some (.deferred (some [])))→
  (∀w',w'.os=w.os→w'.tape=w.tape→w'.output=w.output→w'.heap.size=w.heap.size→(∀b,b∉ds→w'.heap[b]?=w.heap[b]?)→∃v,(results fn tmps).run P w'=.ok v w'∧R (.returned v) w')→
  LeavesInM (Wd ro) n P fn tmps R (zFV ds) .returning w
 | [],w,_,_,h=>by
  simp only[zFV,List.map_nil,LeavesInM,LeavesIn]
  exact h w rfl rfl rfl rfl (fun _ _=>rfl)
 | d::ds,w,hnd,hd,h=>by
  have hdd:=hd d (by simp)
  obtain ⟨hn1,hn2⟩:=List.nodup_cons.1 hnd
  have hlt:d<w.heap.size:=(Array.getElem?_eq_some_iff.1 hdd).1
  simp only[zFV,List.map_cons,LeavesInM]
  refine ⟨by simp,.inl ⟨d,{ w with heap:=w.heap.setIfInBounds d (.deferred none) },rfl,?_,?_⟩⟩
  ·have:=run_takeDeferred (P:=P) hdd
   rw[this]
   rfl
  ·refine zBt ds _ hn2 (fun e he=>?_) ?_
   ·have:d≠e:=fun e'=>hn1 (e'▸he)
    simp[Array.getElem?_setIfInBounds_ne this,hd e (by simp[he])]
   ·intro w' ho ht hout hsz hk
    refine h w' ho ht hout (by rw[hsz];simp) (fun b hb=>?_)
    rw[hk b (fun hc=>hb (by simp[hc]))]
    have:d≠b:=fun e=>hb (by simp[e])
    simp[Array.getElem?_setIfInBounds_ne this]
theorem zB {f:FuncId} {fn:Func} {c:Code} {H:Heap} {args:List HV} {Q:HV→Heap→Prop} (N:Nat) (res:List Nat) (hf:P.funcs[f]?=some fn) (hb:fn.body=some c) (hok:fnOk fn N res args.length=true)
  (h:HW P N H.length c (endQ res H.length Q) (T0 args) H):HCalls P f H args Q:=by
 simp only[fnOk,Bool.and_eq_true,beq_iff_eq,Bool.not_eq_true'] at hok
 obtain ⟨⟨⟨⟨hname,hNN⟩,hres⟩,hrlt⟩,hN0⟩:=hok
 subst hNN
 have hN:args.length≤fn.ntmps:=Nat.le_of_ble_eq_true hN0
 have hres:=zFz _ _ hres
 have hrlt:∀i∈res,i<fn.ntmps:=fun i hi=>by simpa using List.all_eq_true.1 hrlt i hi
 have hne:¬fn.name = "runtime.NumGoroutine" :=by simpa using hname
 refine ⟨fun vals w=>by simp[callFunc,hf,hne,hb],fun Z G FP w vals hi ha=>?_⟩
 refine callsIn_wide.1 (callsIn_of_wp_marks (F:=Fence.wide) (n:=0) hf hb trivial ?_)
 have hlen:=zS _ _ _ ha
 have hsz:(vals.toArray++Array.replicate (fn.ntmps-vals.toArray.size) undef).size=fn.ntmps:=by simp;omega
 have hst:St fn.ntmps w.heap.size Z G FP [] (T0 args) H { tmps:=vals.toArray++Array.replicate (fn.ntmps-vals.toArray.size) undef,defers:=[] } w :=
  ⟨hi,hsz,zGq fn.ntmps ha,rfl,by simp,by simp⟩
 have hlenG:H.length=G.length:=hi.len.symm
 refine wpIn_mono (h none 0 w.heap.size Z G FP [] _ w ⟨Nat.le_refl _,by simp⟩ (by omega) hst) ?_
 rintro e a' w' ⟨T',H',Z',G',FP',ds',hend,hs',hG',hE'⟩
 have he:e=.normal∨e=.ret:=by cases e <;> simp[endQ] at hend <;> simp
 have hend' : endP H.length Q (zAl H.length (retV res T') H'):=by rcases he with rfl | rfl <;> exact hend
 obtain ⟨hnm,hQ⟩:=hend'
 have goal:LeavesInM Fence.wide 0 P fn a'.tmps (Post Z G FP H w Q) a'.defers .returning w':=by
  rw[hs'.defers]
  refine zBt (ro:=none) ds' w' hs'.dsn (fun d hd=>(hs'.dsat d hd).2.1) ?_
  intro w2 ho ht hout hsz2 hk
  have hkeep:∀b,(Z' b∨∃id,b∈FP' id)→w2.heap[b]?=w'.heap[b]?:=by
   intro b hb
   refine hk b fun hc=>?_
   obtain ⟨_,_,h3,h4⟩:=hs'.dsat b hc
   rcases hb with hb | ⟨id,hb⟩
   ·exact h3 hb
   ·exact h4 id hb
  have hi2:HInv Z' G' FP' H' w2:=hs'.inv.keep (by omega) hkeep
  obtain ⟨v,hrun,hv⟩:=zV8 (P:=P) (w:=w2) hres hrlt (fun i hi'=>RV.nil_keep (fun b hb=>hkeep b (.inl hb)) (fun _ h=>h) (GLe.refl _) (hs'.tmps i hi'))
  refine ⟨v,hrun,?_⟩
  obtain ⟨G3,FP3,fr,hp,hrv⟩:=zEb (L:=H.length) (retV res T') G' FP' H' v hi2 hv
  have hL3:H.length≤G3.length:=by have:=hp.le.len;have:=hG'.len;omega
  have i4:=hp.inv.trunc H.length hnm
  have hE2:Evo Z FP w Z' FP' w2:=by
   refine ⟨ho.trans hE'.os,ht.trans hE'.tape,hout.trans hE'.output,by rw[hsz2];exact hE'.size,fun b hb hf=>?_,hE'.zle,hE'.znew,hE'.fnew⟩
   rw[hk b (fun hc=>by have:=(hs'.dsat b hc).1;omega)]
   exact hE'.keep b hb hf
  refine ⟨v,_,_,Z',G3.take H.length,_,fr,rfl,hQ,?_,i4,hrv,hp.nodup,fun b hb=>?_,fun b hb=>?_,?_,?_⟩
  ·rw[List.length_take,←hp.inv.len];omega
  ·obtain ⟨⟨id,h1⟩,h2⟩:=hp.fr b hb
   refine ⟨hi2.zfp id b h1,hi2.flt id b h1,fun j hj=>?_⟩
   split at hj
   ·exact h2 j hj
   ·simp at hj
  ·obtain ⟨⟨id,h1⟩,h2⟩:=hp.fr b hb
   exact hE2.fnew id b h1
  ·refine ⟨by simp;omega,fun id hid=>?_⟩
   have hid' : id<H.length:=by omega
   rw[zAO hid']
   have hG3:GLt H.length G' G3:=GLt.of hG'.len hp.le
   exact (hG'.trans hG3).at_ id hid'
  ·refine ⟨hE2.os,hE2.tape,hE2.output,hE2.size,hE2.keep,hE2.zle,hE2.znew,fun id b hb=>?_⟩
   split at hb
   ·exact hE2.fnew id b (hp.fp id b hb)
   ·simp at hb
 rcases he with rfl | rfl
 ·exact goal
 ·exact goal
end
end Go.Proofs.YtoknohandclcbaaGreat
namespace Go.Proofs.YtoknohandclcbaaGreat
open Go.RowKit
def zAb (P:Program) (t:TypeId) (name:String):Option Nat :=
 match P.info? t,P.underlying t with
 | some i,some d =>
  match i.methods.find? (·.name == name) with
  | some m =>
   match m.path.toList,m.func with
   | [],some (f,ptr)=>if (match d with | .pointer _=>ptr | _=>!ptr)=true then some f else none
   | _,_=>none
  | none=>none
 | _,_=>none
theorem zHY {P:Program} {t:TypeId} {name:String} {f:Nat} {w:World} (v:Value) (h:zAb P t name=some f):(method (P.types.size+Made.depth) t v name).run P w=.ok (f,v) w:=by
 unfold zAb at h
 split at h
 ·rename_i i d hi hd
  split at h
  ·rename_i m hm
   split at h
   ·rename_i f' ptr hp hf
    obtain ⟨k,hk⟩:∃k,P.types.size+Made.depth=k+1:=⟨P.types.size+(Made.depth-1),by simp[Made.depth]⟩
    rw[hk]
    simp only[method,typeInfo,Sem.run_bind,run_program,Result.andThen_ok,hi,hm,hp,hf,follow,Sem.run_pure,receiverAt,run_underlying hd]
    cases d <;> cases ptr <;> simp at h <;> subst h <;> simp[Place.get]
   ·cases h
  ·cases h
 ·cases h
section
variable {P:Program} {N L:Nat} {T:Nat→HV} {H:Heap} {K:KT}
theorem zGr {o:Oper} {rv:Operand} {name:String} {args:Array Operand} {tys:Array TypeId} {t:TypeId} {x:HV} {fid:Nat} {K:(Nat→HV)→Heap→Prop} {Q:HV→Heap→Prop}
  (ho:o.op=.call { callee:=.invoke rv name,args:=args,argTypes:=tys }) (hok:zG N o=true) (hf:hev T rv=.ic t x) (hm:zAb P t name=some fid)
  (hc:HCalls P fid H (x::args.toList.map (hev T)) Q) (hK:∀r H',Q r H'→H'.length=H.length→K (updO T o.dst (zAH r H').1) (zAH r H').2):HO P N L o T H K:=by
 intro ro n B Z G FP ds a w hB hL hs next QQ hn
 refine ⟨fun _ _=>trivial,?_⟩
 rw[zAY _ _ _ (by rw[ho];intro c;simp)]
 have hfv:=hs.hev rv (zF hok (by simp[ho,Op.operands,Call.operands]))
 rw[hf] at hfv
 simp only[RV] at hfv
 obtain ⟨_,z,hfe,hcl⟩:=hfv
 have hargs:args.toList.all (zBJ N)=true:=by
  rw[List.all_eq_true]
  intro x hx
  exact zF hok (by simp[ho,Op.operands,Call.operands];exact .inr (by simpa using hx))
 have hal:=zB4 hs args.toList hargs
 have hvals:RL Z G w (x::args.toList.map (hev T)) (z::args.toList.map a.eval) []:=by
  simp only[RL]
  exact ⟨_,_,[],[],rfl,rfl,hcl,hal⟩
 have hrun:(execOp a.eval o).run P w=.ok (.enter fid (z::args.toList.map a.eval).toArray) w:=by
  have e:#[z]++(#[Value.iface t z]++args.map a.eval).extract 1 (#[Value.iface t z]++args.map a.eval).size=(z::args.toList.map a.eval).toArray:=by
   apply Array.ext';simp[List.take_of_length_le]
  simp only[execOp,ho,resolve,hfe,Sem.run_bind,Sem.run_pure,Result.andThen_ok,invoke]
  have e0:(#[Value.iface t z]++args.map a.eval)[0]?=some (Value.iface t z):=by rw[Array.getElem?_append_left (by simp)];rfl
  rw[e0]
  simp only[callMethod,Sem.run_bind,run_program,Result.andThen_ok,zHY z hm,e]
  exact hc.1 _ _
 rw[hrun,Oper.uponIn_enter]
 refine ⟨fun h=>by cases ro <;> simp[Wd,Fence.wide] at h,zCT (Calls.mono (hc.2 Z G FP w _ hs.inv hvals) ?_)⟩
 rintro e w' ⟨v,r,H',Z',G',FP',fr,rfl,hQ,hlen,hi',hr,hnd,hfr1,hfr2,hG,hE⟩
 obtain ⟨G2,FP2,hnm,hrv⟩:=zEe r G' FP' H' v fr hi' hr hnd hfr1
 have hE2:Evo Z FP w Z' FP2 w':=by
  refine ⟨hE.os,hE.tape,hE.output,hE.size,hE.keep,hE.zle,hE.znew,fun id b hb=>?_⟩
  rcases hnm.fp id b hb with h | ⟨id',h⟩
  ·exact hfr2 b h
  ·exact hE.fnew id' b h
 refine hn _ _ ⟨_,_,Z',G2,FP2,hK r H' hQ hlen,(hs.evo hnm.inv (hG.trans hnm.le) hE2).put hrv o.dst ?_,GLt.of hL (hG.trans hnm.le),hE2⟩
 intro i hi
 have:=hok
 simp only[zG,zBr,hi,Bool.and_eq_true,decide_eq_true_eq] at this
 exact this.1
def hmm (b:Bool) (x y:HV) (K:HV→Prop):Prop :=
 match x,y with
 | .v (.int k x),.v (.int _ y)=>K (.v (.int k (if b=true then (if y > x then y else x) else (if y<x then y else x))))
 | _,_=>False
theorem z4V {o:Oper} {x y:Operand} {t u:TypeId} (ho:o.op=.call { callee:=.builtin .max,args:=#[x,y],argTypes:=#[t,u] }) (hok:zG N o=true) (h:hmm true (hev T x) (hev T y) (fun v=>K v H)):HQ P N o T H K :=
 fun B Z G FP ds a w hs=>by
  have hx:=hs.hev x (zF hok (by simp[ho,Op.operands,Call.operands]))
  have hy:=hs.hev y (zF hok (by simp[ho,Op.operands,Call.operands]))
  unfold hmm at h
  split at h
  ·rename_i k x' k' y' e1 e2
   rw[e1] at hx;rw[e2] at hy
   refine ⟨_,_,?_,h,by simp[RV];rfl⟩
   simp[execOp,ho,resolve,invoke,builtin,Builtin.max_,RV_v hx,RV_v hy,List.foldlM,Builtin.max2]
  ·exact h.elim
theorem z4U {o:Oper} {x y:Operand} {t u:TypeId} (ho:o.op=.call { callee:=.builtin .min,args:=#[x,y],argTypes:=#[t,u] }) (hok:zG N o=true) (h:hmm false (hev T x) (hev T y) (fun v=>K v H)):HQ P N o T H K :=
 fun B Z G FP ds a w hs=>by
  have hx:=hs.hev x (zF hok (by simp[ho,Op.operands,Call.operands]))
  have hy:=hs.hev y (zF hok (by simp[ho,Op.operands,Call.operands]))
  unfold hmm at h
  split at h
  ·rename_i k x' k' y' e1 e2
   rw[e1] at hx;rw[e2] at hy
   refine ⟨_,_,?_,h,by simp[RV];rfl⟩
   simp[execOp,ho,resolve,invoke,builtin,Builtin.min_,RV_v hx,RV_v hy,List.foldlM,Builtin.min2]
  ·exact h.elim
end
section
variable {Z Z' : Nat→Prop} {G:List (Option OG)} {FP:Nat→List Nat} {H:Heap} {w:World}
theorem HInv.zmore (h:HInv Z G FP H w) (hz:∀b,Z b→Z' b) (hlt:∀b,Z' b→b<w.heap.size) (hfp:∀id b,b∈FP id→¬Z' b):HInv Z' G FP H w:=by
 refine ⟨h.len,h.dead,h.nofp,fun id o ho=>?_,h.nodup,h.disj,hlt,h.flt,hfp,h.glob.keep hz (fun _ _=>rfl)⟩
 obtain ⟨g,hg,hob⟩:=h.live id o ho
 exact ⟨g,hg,hob.keep (fun _ _=>rfl) hz (GLe.refl _) (fun _ _=>rfl)⟩
def Zid (Z:Nat→Prop) (FP:Nat→List Nat) (id:Nat):Nat→Prop:=fun b=>Z b∨b∈FP id
theorem HInv.freeze (h:HInv Z G FP H w) (id:Nat):HInv (Zid Z FP id) (G.set id none) (fun j=>if j=id then [] else FP j) (H.set id none) w:=by
 refine (h.kill id).zmore (fun b hb=>.inl hb) (fun b hb=>?_) (fun j b hj hz=>?_)
 ·rcases hb with hb | hb
  ·exact h.zlt b hb
  ·exact h.flt id b hb
 ·by_cases e:j=id
  ·simp[e] at hj
  ·simp only[if_neg e] at hj
   rcases hz with hz | hz
   ·exact h.zfp j b hj hz
   ·exact e (h.disj j id b hj hz)
theorem zDH (id:Nat):Evo Z FP w (Zid Z FP id) (fun j=>if j=id then [] else FP j) w:=by
 refine ⟨rfl,rfl,rfl,Nat.le_refl _,fun _ _ _=>rfl,fun _ h=>.inl h,fun b hb=>?_,fun j b hb=>?_⟩
 ·rcases hb with hb | hb
  ·exact .inl hb
  ·exact .inr (.inr ⟨id,hb⟩)
 ·by_cases e:j=id
  ·simp[e] at hb
  ·simp only[if_neg e] at hb;exact .inr ⟨j,hb⟩
theorem zLO {b:Nat}:∀(l:List HV) (k:Nat),RC Z G w l b k []→RR Z G w (l.map fun c=>[c]) b k []
 | [],k,_=>by simp[RR]
 | c::t,k,h=>by
  simp only[RC] at h
  obtain ⟨y,f1,f2,hf,h1,h2,h3,h4⟩:=h
  obtain ⟨rfl,rfl⟩:=List.append_eq_nil_iff.1 hf.symm
  simp only[List.map_cons,RR,RC,List.length_cons,List.length_nil]
  exact ⟨[],[],rfl,⟨y,[],[],rfl,h1,h2,h3,rfl⟩,zLO t (k+1) h4⟩
end
section
variable {P:Program} {N L:Nat} {T:Nat→HV} {H:Heap} {K:KT}
def zSx (P:Program) (H:Heap) (src dst:TypeId) (x:HV) (K:KT):Prop :=
 match x with
 | .v (.string s) =>
  match zL P dst 3 with
  | some (_,e,_)=>zH P src 4=true∧zAg P e=some .u8∧s.size≤140737488355328∧K (.sl ((bl s).map zDg)) H
  | none=>False
 | _=>False
theorem zOP {Z:Nat→Prop} {w:World} {b:Nat}:∀(l:List UInt8) (k:Nat),(∀j (h:j<l.length),w.cell? ⟨b,k+j,none⟩=some (.int .u8 (l[j].toNat:Int)))→RR Z [] w (l.map zDg) b k []
 | [],k,_=>by simp[RR]
 | c::t,k,h=>by
  simp only[List.map_cons,RR,zDg,RC,List.length_cons,List.length_nil]
  refine ⟨[],[],rfl,⟨_,[],[],rfl,by simpa using h 0 (by simp),rfl,by simp[RV],rfl⟩,zOP t (k+1) fun j hj=>?_⟩
  have:=h (j+1) (by simp;omega)
  simp only[List.getElem_cons_succ] at this
  rw[←this];congr 2;omega
theorem zYE {o:Oper} {src dst:TypeId} {x:Operand} (ho:o.op=.convert src dst x) (hok:zG N o=true) (h:zSx P H src dst (hev T x) K):HR P N o T H K:=by
 intro B Z G FP ds a w hs
 have hx:=hs.hev x (zF hok (by simp[ho,Op.operands]))
 unfold zSx at h
 split at h
 ·rename_i s e
  rw[e] at hx
  split at h
  ·rename_i x0 e0 te he
   obtain ⟨h1,h2,h3,hK⟩:=h
   obtain ⟨hs1,hs2⟩:=zAT he
   have hrun:=Lib.run_convert_string_bytes (P:=P) w src dst e0 s (zAF h1) hs1 (zAj h2)
   have hsz:=Lib.bytesWorld_size w e0 s
   have hold:=Lib.bytesWorld_at_old w e0 s
   let Z' : Nat→Prop:=fun b=>Z b∨b=w.heap.size
   have hi1:HInv Z G FP H (Lib.bytesWorld w e0 s):=hs.inv.keep (by omega) (fun b hb=>hold b (by
    rcases hb with hb | ⟨id,hb⟩
    ·exact hs.inv.zlt b hb
    ·exact hs.inv.flt id b hb))
   have hi2:HInv Z' G FP H (Lib.bytesWorld w e0 s):=hi1.zmore (fun b hb=>.inl hb) (fun b hb=>by
     rcases hb with hb | hb
     ·have:=hs.inv.zlt b hb;omega
     ·omega) (fun id b hb hz=>by
     rcases hz with hz | hz
     ·exact hs.inv.zfp id b hb hz
     ·have:=hs.inv.flt id b hb;omega)
   have hcap:=grownCap_ge w s.size 0 e0
   have hcm:=grownCap_le_maxLen w s.size 0 e0 (by simp only[maxLen];omega)
   refine ⟨.value (.slice (some ⟨w.heap.size,0,none⟩) s.size (grownCap w s.size 0 e0)),_,Lib.bytesWorld w e0 s,_,H,Z',G,FP,?_,.inl rfl,hK,?_,hi2,GLe.refl _,?_⟩
   ·simp only[execOp,ho,Sem.run_bind,RV_v hx,hrun,Result.andThen_ok,Sem.run_pure]
   ·have hlen:((bl s).map zDg).length=s.size:=by simp only[bl,List.length_map,Array.length_toList];rfl
    simp only[RV]
    refine ⟨trivial,_,_,by rw[hlen],by rw[hlen];exact hcap,hcm,.inr ⟨w.heap.size,0,rfl,.inr rfl,?_,?_⟩⟩
    ·refine zBy (sz:=1) fun r hr=>?_
     obtain ⟨c,_,rfl⟩:=List.mem_map.1 hr
     rfl
    ·refine zOP _ _ fun j hj=>?_
     have hj' : j<s.size:=hj
     have:=Lib.bytesWorld_cell w e0 s j hj'
     rw[Nat.zero_add,this]
     have e2:s.data.toList.getD j 0=(bl s)[j]:=by
      show (bl s).getD j 0=_
      rw[List.getD_eq_getElem?_getD,List.getElem?_eq_getElem hj];rfl
     rw[e2]
     rfl
   ·refine ⟨?_,?_,?_,by omega,fun b hb _=>hold b hb,fun _ h=>.inl h,fun b hb=>?_,fun id b hb=>.inr ⟨id,hb⟩⟩
    ·simp[Lib.bytesWorld,World.freeze,World.alloc,World.drew,-World.alloc_eq,-World.drew_eq]
    ·simp[Lib.bytesWorld,World.freeze,World.alloc,World.drew,-World.alloc_eq,-World.drew_eq]
    ·simp[Lib.bytesWorld,World.freeze,World.alloc,World.drew,-World.alloc_eq,-World.drew_eq]
    ·rcases hb with hb | hb
     ·exact .inl hb
     ·exact .inr (.inl (by omega))
  ·exact h.elim
 ·exact h.elim
def zQd (P:Program) (t:TypeId):Option Nat :=
 match zL P t 2 with
 | some (x,_,e)=>if e.size=1 then some x.num else none
 | none=>none
def zZe (P:Program) (T:Nat→HV) (H:Heap) (t:TypeId) (x:HV) (lo:Operand) (K:KT):Prop :=
 match x with
 | .pt id n 0 0 =>
  match zQd P t,hev T lo with
  | some m,.v (.int _ z) =>
   match H[id]? with
   | some (some ob) =>
    match ob.rows with
    | [row]=>n=1∧row.length=m∧m≤140737488355328∧0≤z∧z≤(m:Int)∧K (.sl (((fzoL row).map fun c=>[c]).drop z.toNat)) (H.set id none)
    | _=>False
   | _=>False
  | _,_=>False
 | _=>False
theorem z1d {o:Oper} {t:TypeId} {x lo:Operand} (ho:o.op=.slice t x (some lo) none none) (hok:zG N o=true) (h:zZe P T H t (hev T x) lo K):HR P N o T H K:=by
 intro B Z G FP ds a w hs
 have hx:=hs.hev x (zF hok (by simp[ho,Op.operands]))
 have hl:=hs.hev lo (zF hok (by simp[ho,Op.operands]))
 unfold zZe at h
 split at h
 ·rename_i id n ex
  rw[ex] at hx
  split at h
  ·rename_i m k z hm hz
   rw[hz] at hl
   split at h
   ·rename_i ob hob
    split at h
    ·rename_i row hrow
     obtain ⟨h1,h2,h3,h4,h5,hK⟩:=h
     unfold zQd at hm
     split at hm
     ·rename_i tx te e he
      split at hm
      ·rename_i he1
       cases hm
       obtain ⟨hs1,hs2⟩:=zEv he
       obtain ⟨g,b,cells,f,hg,hOB,hb,hf,hh,hc,hcap,hml,hrr,hy,hrl⟩:=zPM hs.inv hob (by rw[hrow];exact h1) (show ob.rows[0]?=some row by rw[hrow];rfl) hx
       have hi2:=hs.inv.freeze id
       have hbd:=zBP (P:=P) (isS:=false) (len:=tx.num) (cap:=tx.num) (li:=z) (hi':=(tx.num:Int)) hs (lo:=some lo) (hi:=none) (by simp[zHM,hz]) rfl (fun y hy=>zF hok (by cases hy;simp[ho,Op.operands])) (by simp) h4 h5 (Int.le_refl _)
       have hrun:(execOp a.eval o).run P w=.ok (.value (.slice (some (if tx.num=z.toNat then ⟨b,0,none⟩ else (⟨b,0,none⟩:Addr).add z.toNat)) (tx.num-z.toNat) (tx.num-z.toNat))) w:=by
        simp only[Option.map_some,Option.map_none,RV_v hl,Int.toNat_natCast] at hbd
        simp only[execOp,ho,hy,RV_v hl,Instr.sliceAt,Option.map_some,Option.map_none,Sem.run_bind,run_underlying hs1,Result.andThen_ok,Instr.sureAddr,Sem.run_pure,hbd,zT hs2,he1,Nat.mul_one,Nat.zero_mul,Nat.add_zero]
       have hlz:z.toNat≤tx.num:=by omega
       have hrlen:(((fzoL row).map fun c=>[c]).drop z.toNat).length=tx.num-z.toNat:=by rw[List.length_drop,List.length_map,zA0,h2]
       have hRC:RC (Zid Z FP id) [] w (fzoL row) b 0 []:=by
        rw[hrow] at hrr
        simp only[RR] at hrr
        obtain ⟨f1,f2,hff,hrc,_⟩:=hrr
        exact zEO row _ b 0 f1 ⟨fun c hc=>.inl hc,fun c hc=>.inr (by rw[hf,hff];simp[hc])⟩ hrc
       refine ⟨_,_,w,_,_,Zid Z FP id,_,_,hrun,.inl rfl,hK,?_,hi2,GLe.kill id,zDH id⟩
       simp only[RV]
       refine ⟨trivial,_,_,by rw[hrlen],by rw[hrlen];omega,by simp only[maxLen];omega,?_⟩
       by_cases hz0:tx.num=z.toNat
       ·left
        apply List.eq_nil_of_length_eq_zero
        rw[hrlen];omega
       ·right
        refine ⟨b,z.toNat,by rw[if_neg hz0];simp[zBX],.inr (by rw[hf];simp),?_,?_⟩
        ·refine zBy (sz:=1) fun r hr=>?_
         obtain ⟨c,_,rfl⟩:=List.mem_map.1 (List.mem_of_mem_drop hr)
         rfl
        ·have hd:=zIx (sz:=1) ((fzoL row).map fun c=>[c]) 0 z.toNat [] (fun r hr=>by obtain ⟨c,_,rfl⟩:=List.mem_map.1 hr;rfl) (zLO _ _ hRC)
         obtain ⟨f',hd1,hd2⟩:=hd
         have:f'=[]:=List.eq_nil_of_sublist_nil hd2
         subst this
         simpa using hd1
      ·cases hm
     ·cases hm
    ·exact h.elim
   ·exact h.elim
  ·exact h.elim
 ·exact h.elim
end
section
variable {Z Z' : Nat→Prop} {w w' : World}
mutual
theorem zU7:∀(h:HV) (G:List (Option OG)) (y:Value) (fr:List Nat),RV Z G w h y fr→nm G.length h=true
 | .hd ..,G,y,fr,h=>by simp only[RV] at h;simpa [nm] using h.2.2.1
 | .pt ..,G,y,fr,h=>by simp only[RV] at h;simpa [nm] using h.2.2.1
 | .mp _,G,y,fr,h=>by simp only[RV] at h;simpa [nm] using h.2.2.1
 | .yl _,G,y,fr,h=>by simp only[RV] at h;simpa [nm] using h.2.1
 | .ag cs,G,y,fr,h=>by simp only[RV] at h;obtain ⟨ys,_,h⟩:=h;simpa only[nm] using zUe cs G _ _ h
 | .tu cs,G,y,fr,h=>by simp only[RV] at h;obtain ⟨ys,_,h⟩:=h;simpa only[nm] using zUe cs G _ _ h
 | .fn _ cs,G,y,fr,h=>by simp only[RV] at h;obtain ⟨ys,_,h⟩:=h;simpa only[nm] using zUe cs G _ _ h
 | .ic _ x,G,y,fr,h=>by simp only[RV] at h;obtain ⟨_,z,_,h⟩:=h;simpa only[nm] using zU7 x G z _ h
 | .any,_,_,_,_=>rfl
 | .v _,_,_,_,_=>rfl
 | .sl _,_,_,_,_=>rfl
 | .ow ..,_,_,_,_=>rfl
 | .fp ..,_,_,_,_=>rfl
 | .bx ..,_,_,_,_=>rfl
 | .ob _,_,_,_,_=>rfl
 | .om ..,_,_,_,_=>rfl
 | .gv _,_,_,_,_=>rfl
theorem zUe:∀(l:List HV) (G:List (Option OG)) (ys:List Value) (fr:List Nat),RL Z G w l ys fr→nmL G.length l=true
 | [],_,_,_,_=>rfl
 | h::t,G,ys,fr,hr=>by
  simp only[RL] at hr
  obtain ⟨y,ys',f1,f2,_,_,h1,h2⟩:=hr
  simp only[nmL,zU7 h G y f1 h1,zUe t G ys' f2 h2,Bool.and_self]
end
theorem z4R:∀(l:List HV) (G:List (Option OG)) (b k:Nat) (fr:List Nat),RC Z G w l b k fr→nmL G.length l=true
 | [],_,_,_,_,_=>rfl
 | h::t,G,b,k,fr,hr=>by
  simp only[RC] at hr
  obtain ⟨y,f1,f2,_,_,_,h1,h2⟩:=hr
  simp only[nmL,zU7 h G y f1 h1,z4R t G b (k+1) f2 h2,Bool.and_self]
theorem z4L:∀(l:List (List HV)) (G:List (Option OG)) (b k:Nat) (fr:List Nat),RR Z G w l b k fr→nmR G.length l=true
 | [],_,_,_,_,_=>rfl
 | r::t,G,b,k,fr,hr=>by
  simp only[RR] at hr
  obtain ⟨f1,f2,_,h1,h2⟩:=hr
  simp only[nmR,z4R r G b k f1 h1,z4L t G b _ f2 h2,Bool.and_self]
theorem OB.nm {G:List (Option OG)} {o:HObj} {g:OG} {fp:List Nat} (h:OB Z G w o g fp):nmR G.length o.rows=true:=by
 rcases h.at_ with ⟨_,e,_⟩ | ⟨b,cells,f,_,_,_,_,_,_,e⟩ | ⟨x,hs,obj,f,_,e,_,_,_,e'⟩
 ·rw[e];rfl
 ·exact z4L _ _ _ _ _ e
 ·rw[e]
  simp only[nmR,nmL,Go.Proofs.YtoknohandclcbaaGreat.nm,zUe _ _ _ _ e',Bool.and_self]
theorem HInv.nm {G:List (Option OG)} {FP:Nat→List Nat} {H:Heap} (h:HInv Z G FP H w):nmH H.length H=true:=by
 unfold nmH
 rw[List.take_length,List.all_eq_true]
 intro o ho
 cases o with
 | none=>rfl
 | some ob =>
  obtain ⟨i,hi⟩:=List.mem_iff_getElem?.1 ho
  obtain ⟨g,_,hob⟩:=h.live i ob hi
  have:=hob.nm
  rw[h.len] at this
  exact this
end
end Go.Proofs.YtoknohandclcbaaGreat
