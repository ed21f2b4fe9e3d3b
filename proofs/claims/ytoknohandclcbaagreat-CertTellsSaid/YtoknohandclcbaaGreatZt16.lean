/- Parts of the proof: Gk, Gd, Gl, HiDl, Gx, Sp, Sq, Dc, Ck, Dd, Su, Sv, Co. -/
import Derived.Test.YtoknohandclcbaaGreatZt15
import Derived.Test.YtoknohandclcbaaGreatZt14
import Derived.Test.YtoknohandclcbaaGreatZt13
import Derived.Test.YtoknohandclcbaaGreatZt12
import Derived.Test.YtoknohandclcbaaGreatZt11
import Derived.Test.YtoknohandclcbaaGreatZt10
open Nat renaming reduceAdd → nA, reduceSub → nS, reduceMul → nM, reduceBEq → nB
open Int renaming reduceToNat → nT
set_option linter.unusedSectionVars false
set_option linter.unusedVariables false
set_option linter.unusedSimpArgs false
namespace Go.Proofs.YtoknohandclcbaaGreat
open Go.RowKit
set_option maxRecDepth 8000
theorem zOu {v0 v2:Value} {m:Int} {w:World} {R:Ending→World→Prop}
  (hc:Calls Tryz.prog 145 #[v0,.int .i64 m,.slice none 0 0,v2] (w.alloc (.cells #[.slice none 0 0] 22)) fun e w'=>e=.returned (.tuple #[])∧w'.cell? ⟨w.heap.size,0,none⟩=some (.slice none 0 0)∧w'.frozen? ⟨w.heap.size,0,none⟩=false∧R (.returned (.slice none 0 0)) (w'.setCell ⟨w.heap.size,0,none⟩ (.slice none 0 0))) :
  Calls Tryz.prog 114 #[v0,.int .i64 m,v2] w R:=by
 have hmf:∀(fn:Fn) (first cap:Array Value) (w:World),(Instr.makeFunc fn first cap).run Tryz.prog w=.ok (.func fn first cap) w:=fun _ _ _ _=>rfl
 go_enter_defers Tryz.func114,Tryz.ntmps114
 go_wp2_with (refine Calls.mono hc ?_;rintro e w2 ⟨rfl,hcell,hfro,hR⟩)
 refine leaves_cons (f:=144) (args:=#[.pointer (some ⟨w.heap.size,0,none⟩)]) (by simp) (by simp[go_sem]) ?_
 refine (zUX ⟨w.heap.size,0,none⟩ _).mono ?_
 rintro e u' w'' ⟨rfl,rfl,rfl⟩
 have hc2:(w2.setCell ⟨w.heap.size,0,none⟩ (.slice none 0 0)).cell? ⟨w.heap.size,0,none⟩=some (.slice none 0 0):=by
  simp[go_sem,hcell]
 simp[Leaves,Go.settle,results,Tryz.results114,go_sem,hc2]
 exact hR
theorem zH6 {v0 v2:Value} {m:Int} {w:World} {R:Ending→World→Prop}
  (hc:Calls Tryz.prog 145 #[v0,.int .i64 m,.slice none 0 0,v2] (w.alloc (.cells #[.slice none 0 0] 22)) fun e w2=>∃v,e=.panicked [{ v:=v,recovered:=false }]∧
   CallsD Tryz.prog 144 #[.pointer (some ⟨w.heap.size,0,none⟩)] (.panicking [{ v:=v,recovered:=false }]) w2 fun e u' w'=>e=.returned (.tuple #[])∧u'=.panicking [{ v:=v,recovered:=true }]∧∃y,w'.cell? ⟨w.heap.size,0,none⟩=some y∧R (.returned y) w') :
  Calls Tryz.prog 114 #[v0,.int .i64 m,v2] w R:=by
 have hmf:∀(fn:Fn) (first cap:Array Value) (w:World),(Instr.makeFunc fn first cap).run Tryz.prog w=.ok (.func fn first cap) w:=fun _ _ _ _=>rfl
 go_enter_defers Tryz.func114,Tryz.ntmps114
 go_wp2_with (refine Calls.mono hc ?_;rintro e w2 ⟨v,rfl,hR⟩)
 refine leaves_cons (f:=144) (args:=#[.pointer (some ⟨w.heap.size,0,none⟩)]) (by simp) (by simp[go_sem]) ?_
 refine hR.mono ?_
 rintro e u' w'' ⟨rfl,rfl,y,hy,hR⟩
 simp[Leaves,Go.settle,results,Tryz.results114,go_sem,hy]
 exact hR
end Go.Proofs.YtoknohandclcbaaGreat
namespace Go.Proofs.YtoknohandclcbaaGreat
set_option maxRecDepth 8000
theorem zJW {f:List Int→List Int→Option (List Int)} {row r:List Int}:∀{all:List Int},tryG f row all=some r→∃n rest,n::rest <:+ all∧f rest (row++[n])=some r
 | [],h=>by simp[tryG] at h
 | n::all,h=>by
  rw[tryG] at h
  split at h
  ·rename_i r' e
   exact ⟨n,all,List.suffix_refl _,by rw[e];exact h⟩
  ·obtain ⟨m,rest,h1,h2⟩:=zJW h
   exact ⟨m,rest,h1.trans (List.suffix_cons _ _),h2⟩
theorem zDp (l:List (List Int)):∀(m:Nat) (all row r:List Int),tryF l m all row=some r→zB3 r l=true∧∃s,r=row++s∧s.length=m∧s.Sublist all
 | 0,all,row,r,h=>by
  unfold tryF at h
  split at h
  ·rename_i hh
   cases h
   exact ⟨hh,[],by simp,rfl,List.nil_sublist _⟩
  ·cases h
 | m+1,all,row,r,h=>by
  obtain ⟨n,rest,h1,h2⟩:=zJW (f:=tryF l m) h
  obtain ⟨h3,s,rfl,h5,h6⟩:=zDp l m rest _ r h2
  exact ⟨h3,n::s,by simp,by simp[h5],(h6.cons_cons n).trans h1.sublist⟩
theorem zGQ {l:List (List Int)} {all r:List Int}:∀(k m:Nat),zCe l all k m=(r,true)→∃n,m≤n∧tryF l n all []=some r∧∀j,m≤j→j<n→tryF l j all []=none
 | 0,m,h=>by simp[zCe] at h
 | k+1,m,h=>by
  unfold zCe at h
  cases ht:tryF l m all [] with
  | some r' =>
   rw[ht] at h
   simp only[Prod.mk.injEq,and_true] at h
   subst h
   exact ⟨m,Nat.le_refl _,ht,fun j h1 h2=>by omega⟩
  | none =>
   rw[ht] at h
   obtain ⟨n,h1,h2,h3⟩:=zGQ k (m+1) h
   refine ⟨n,by omega,h2,fun j h4 h5=>?_⟩
   rcases Nat.lt_or_ge m j with hj | hj
   ·exact h3 j hj h5
   ·obtain rfl:j=m:=by omega
    exact ht
theorem zGS {l:List (List Int)} {r:List Int} (h:zB8 l=(r,true)):(∀row∈l,row≠[])∧∃n,tryF l n (allN l) []=some r∧∀j,j<n→tryF l j (allN l) []=none:=by
 unfold zB8 at h
 split at h
 ·simp at h
 ·rename_i hn
  obtain ⟨n,h1,h2,h3⟩:=zGQ _ _ h
  refine ⟨fun row hr e=>hn ?_,n,h2,fun j hj=>h3 j (Nat.zero_le _) hj⟩
  rw[List.any_eq_true]
  exact ⟨row,hr,by rw[e];rfl⟩
end Go.Proofs.YtoknohandclcbaaGreat
namespace Go.Proofs.YtoknohandclcbaaGreat
open Go.RowKit
set_option maxRecDepth 8000
structure Room (Z:Nat→Prop) (FP:Nat→List Nat) (w:World) (g:OG) (FP1:Nat→List Nat):Prop where
 inv:HInv Z [some g] FP1 [some (zC5 (.v (.slice none 0 0)))] (w.alloc (.cells #[.slice none 0 0] 22))
 evo:Evo Z FP w Z FP1 (w.alloc (.cells #[.slice none 0 0] 22))
 ptr:RV Z [some g] (w.alloc (.cells #[.slice none 0 0] 22)) (.pt 0 1 0 0) (.pointer (some ⟨w.heap.size,0,none⟩)) []
 old:∀b,b<w.heap.size→(w.alloc (.cells #[.slice none 0 0] 22)).heap[b]?=w.heap[b]?
 new:(w.alloc (.cells #[.slice none 0 0] 22)).heap[w.heap.size]?=some (.cells #[.slice none 0 0] 22 (0,0))
theorem room {Z:Nat→Prop} {FP:Nat→List Nat} {w:World} (hi:HInv Z [] FP [] w):∃FP1,Room Z FP w ⟨some w.heap.size,22,1,1,1⟩ FP1:=by
 obtain ⟨FP1,i1,e1,_,p1⟩:=lay (e:=22) (sz:=1) (cap:=1) (rows:=[[.v (.slice none 0 0)]]) (cells:=#[.slice none 0 0]) (w1:=w) hi (.inl rfl) rfl (by simp) (by simp[maxLen]) (by simp)
  (by
   show RL Z [] w [.v (.slice none 0 0)] [.slice none 0 0] []
   simp only[RL,RV]
   exact ⟨_,[],[],[],rfl,rfl,⟨rfl,rfl⟩,rfl,rfl⟩)
  (by
   intro y hy
   simp at hy
   subst hy;rfl)
 have p1:=p1 rfl
 simp only[List.nil_append,List.length_nil,List.length_singleton] at i1 p1
 refine ⟨FP1,i1,e1,p1,fun b hb=>heap_alloc_old w _ hb,heap_alloc_new w _⟩
theorem zLa {Z:Nat→Prop} {FP FP1:Nat→List Nat} {w:World} {g:OG} {l:List (List Int)} {m:Nat} {all:List Int} {v0 v2:Value} (hi:HInv Z [] FP [] w) (hR:Room Z FP w g FP1) (h0:RV Z [] w (.sl (ints all)) v0 []) (h2:RV Z [] w (.sl (rws l)) v2 []) :
  RL Z [] (w.alloc (.cells #[.slice none 0 0] 22)) (tryA l m all []) [v0,.int .i64 m,.slice none 0 0,v2] []:=by
 have keep:∀{h v},RV Z [] w h v []→RV Z [] (w.alloc (.cells #[.slice none 0 0] 22)) h v []:=fun hr=>RV.nil_keep (fun b hb=>hR.old b (hi.zlt b hb)) (fun _ h=>h) (GLe.refl _) hr
 have hn:RV Z [] (w.alloc (.cells #[.slice none 0 0] 22)) (.sl (ints [])) (.slice none 0 0) []:=by
  simp only[RV]
  exact ⟨trivial,none,0,rfl,Nat.le_refl _,Nat.zero_le _,.inl rfl⟩
 have hv1:RV Z [] (w.alloc (.cells #[.slice none 0 0] 22)) (.v (.int .i64 m)) (.int .i64 m) []:=by
  simp only[RV];exact ⟨trivial,trivial⟩
 simp only[RL]
 exact ⟨v0,_,[],[],rfl,rfl,keep h0,_,_,[],[],rfl,rfl,hv1,_,_,[],[],rfl,rfl,hn,v2,_,[],[],rfl,rfl,keep h2,rfl,rfl⟩
theorem zYl {Z:Nat→Prop} {FP:Nat→List Nat} {w:World} {l:List (List Int)} {m:Nat} {all:List Int} {v0 v2:Value} (ok:TryOk l m all []) (ht:tryF l m all []=none) (hi:HInv Z [] FP [] w) (h0:RV Z [] w (.sl (ints all)) v0 []) (h2:RV Z [] w (.sl (rws l)) v2 []) :
  Calls Tryz.prog 114 #[v0,.int .i64 m,v2] w (Post Z [] FP [] w fun x H'=>H'=[]∧x=.v (.slice none 0 0)):=by
 obtain ⟨FP1,hR⟩:=room hi
 have hfp:∀id,FP id=[]:=fun id=>hi.nofp id (by simp)
 refine zOu ?_
 refine Calls.mono (((zH2 l m all [] ok).1 ht).2 Z [] (fun _=>[]) _ _ (HInv.empty hR.inv.zlt hR.inv.glob) (zLa (m:=m) hi hR h0 h2)) ?_
 rintro e w2 ⟨v,r,H',Z',G',FP',fr,rfl,rfl,hlen,i2,hv,_,_,_,_,E2⟩
 have hsz1:(w.alloc (.cells #[.slice none 0 0] 22)).heap.size=w.heap.size+1:=by simp[go_sem]
 have hk:∀b,b<w.heap.size+1→w2.heap[b]?=(w.alloc (.cells #[.slice none 0 0] 22)).heap[b]?:=fun b hb=>E2.keep b (by omega) (by simp)
 have hb0:w2.heap[w.heap.size]?=some (.cells #[.slice none 0 0] 22 (0,0)):=(hk _ (by omega)).trans hR.new
 have hz0:¬Z' w.heap.size:=fun h=>by
  rcases E2.znew _ h with h | h | ⟨id,h⟩
  ·have:=hi.zlt _ h;omega
  ·omega
  ·simp at h
 have hne:∀b,b≠w.heap.size→(w2.setCell ⟨w.heap.size,0,none⟩ (.slice none 0 0)).heap[b]?=w2.heap[b]?:=fun b hb=>Below.heap_setCell w2 _ _ b hb
 have hss:(w2.setCell ⟨w.heap.size,0,none⟩ (.slice none 0 0)).heap.size=w2.heap.size:=by simp[World.setCell]
 have hv' : v=.tuple #[]:=by
  simp only[RV,RL] at hv
  obtain ⟨ys,rfl,h,_⟩:=hv
  congr 1
  exact Array.toList_inj.1 h
 refine ⟨by rw[hv'],by simp[World.cell?,hb0],by simp[World.frozen?,hb0],?_⟩
 have hgl:Globs Z' (w2.setCell ⟨w.heap.size,0,none⟩ (.slice none 0 0)):=i2.glob.keep (fun _ h=>h) (fun b hb=>hne b (fun e=>hz0 (e▸hb)))
 refine ⟨_,.v (.slice none 0 0),[],Z',[],fun _=>[],[],rfl,⟨rfl,rfl⟩,rfl,HInv.empty (fun b hb=>by rw[hss];exact i2.zlt b hb) hgl,by simp only[RV];exact ⟨trivial,trivial⟩,by simp,by simp,by simp,GLe.refl _,?_⟩
 refine ⟨?_,?_,?_,?_,?_,fun b hb=>E2.zle b hb,?_,by simp⟩
 ·exact E2.os.trans rfl
 ·exact E2.tape.trans rfl
 ·exact E2.output.trans rfl
 ·rw[hss];have:=E2.size;omega
 ·intro b hb _
  rw[hne b (by omega),hk b (by omega),hR.old b hb]
 ·intro b hb
  rcases E2.znew b hb with h | h | ⟨id,h⟩
  ·exact .inl h
  ·exact .inr (.inl (by omega))
  ·simp at h
theorem zUV {Z:Nat→Prop} {g:OG} {G:List (Option OG)} {FP:Nat→List Nat} {w:World} {r:List Int} {b:Nat} (hr:r≠[]) (hb:g.blk=some b) (hn:g.n=1) (hi:HInv Z G FP (zLB r) w) (hG:GLt 1 [some g] G) :
  ∃y,w.cell? ⟨b,0,none⟩=some y∧∃Z' FP',RV Z' [] w (.sl (ints r)) y []∧Evo Z FP w Z' FP' w∧(∀b,Z' b→b<w.heap.size)∧Globs Z' w:=by
 obtain ⟨g0,hg0,hob⟩:=hi.live 0 _ rfl
 have e0:g0=g:=by
  rcases hG.at_ 0 (by omega) with h | h | ⟨g1,g2,h1,h2,h3⟩
  ·rw[hg0] at h;cases h
  ·rw[hg0] at h;cases h;rfl
  ·rw[hg0] at h2;cases h2
   simp at h1;subst h1
   have:=hob.n
   rw[hn] at h3
   simp[zC5] at this
   omega
 subst e0
 obtain ⟨b',cells,f,e1,e2,e3,e4,e5,e6,e7⟩:∃b' cells f,g0.blk=some b'∧FP 0=b'::f∧w.heap[b']?=some (.cells cells 22 (0,0))∧cells.size=g0.cap*1∧1≤g0.cap∧g0.cap≤maxLen∧RR Z G w [[.hd 1 0 r.length]] b' 0 f:=by
  rcases hob.at_ with ⟨h,_⟩ | h | ⟨x,hs,obj,f,h,_⟩
  ·rw[hb] at h;cases h
  ·exact h
  ·rw[hb] at h;cases h
 rw[hb] at e1;cases e1
 simp only[RR,RC] at e7
 obtain ⟨f1,f2,hf,⟨y,f3,f4,hf1,hc,h1c,hy,hf4⟩,hf2⟩:=e7
 refine ⟨y,by simpa using hc,?_⟩
 have hy3:f3=[]:=by simp only[RV] at hy;exact hy.1
 subst hy3
 have hst:St 1 w.heap.size Z G FP [] (fun _=>.hd 1 0 r.length) (zLB r) { tmps:=#[y],defers:=[] } w :=
  ⟨hi,rfl,fun i hi1=>(by
   obtain rfl:i=0:=by omega
   exact hy),rfl,by simp,by simp⟩
 obtain ⟨Z5,G5,FP5,s5,_,E5⟩:=Ghost.freezeHd (N:=1) (L:=0) (T:=fun _=>.hd 1 0 r.length) (H:=zLB r) 0 1 r.length (ob:=⟨3,1,ints r⟩) rfl rfl (by simp only[zAD]) w.heap.size Z G FP [] _ w (by omega) hst
 have h5:=s5.tmps 0 (by omega)
 refine ⟨Z5,FP5,?_,E5,s5.inv.zlt,s5.inv.glob⟩
 have h6:RV Z5 G5 w (.sl (ints r)) y []:=by
  have:upd (fun _=>HV.hd 1 0 r.length) 0 (.sl (fzoR (ints r))) 0=.sl (ints r):=by simp only[upd,if_true,zAO]
  rw[this] at h5
  exact h5
 simpa only[RV] using h6
theorem zYk {Z:Nat→Prop} {FP:Nat→List Nat} {w:World} {l:List (List Int)} {m:Nat} {all r:List Int} {v0 v2:Value} (ok:TryOk l m all []) (ht:tryF l m all []=some r) (hr:r≠[]) (hrl:r.length≤200000) (hi:HInv Z [] FP [] w) (h0:RV Z [] w (.sl (ints all)) v0 []) (h2:RV Z [] w (.sl (rws l)) v2 []) :
  Calls Tryz.prog 114 #[v0,.int .i64 m,v2] w (Post Z [] FP [] w fun x H'=>H'=[]∧x=.sl (ints r)):=by
 obtain ⟨FP1,hR⟩:=room hi
 have hfp:∀id,FP id=[]:=fun id=>hi.nofp id (by simp)
 refine zH6 ?_
 refine Calls.mono (((zH2 l m all [] ok).2 r ht).2 Z (fun _=>[]) _ _ (HInv.empty hR.inv.zlt hR.inv.glob) (zLa (m:=m) hi hR h0 h2)) ?_
 rintro e w2 ⟨v,Z',FP',rfl,i2,hv,E2⟩
 refine ⟨v,rfl,?_⟩
 have hsz1:(w.alloc (.cells #[.slice none 0 0] 22)).heap.size=w.heap.size+1:=by simp[go_sem]
 have hk:∀b,b<w.heap.size+1→w2.heap[b]?=(w.alloc (.cells #[.slice none 0 0] 22)).heap[b]?:=fun b hb=>E2.keep b (by omega) (by simp)
 have hznew:∀b,Z' b→Z b∨w.heap.size+1≤b:=fun b hb=>by
  rcases E2.znew _ hb with h | h | ⟨id,h⟩
  ·exact .inl h
  ·exact .inr (by omega)
  ·simp at h
 have i3:HInv Z' [some ⟨some w.heap.size,22,1,1,1⟩] FP1 [some (zC5 (.v (.slice none 0 0)))] w2:=by
  refine (hR.inv.keep E2.size (fun b hb=>hk b ?_)).zmore E2.zle i2.zlt (fun id b hb hz=>?_)
  ·rcases hb with hb | ⟨id,hb⟩
   ·have:=hR.inv.zlt b hb;omega
   ·have:=hR.inv.flt id b hb;omega
  ·rcases hznew b hz with h | h
   ·exact hR.inv.zfp id b hb h
   ·have:=hR.inv.flt id b hb;omega
 have E3:Evo Z FP1 (w.alloc (.cells #[.slice none 0 0] 22)) Z' FP1 w2:=⟨E2.os,E2.tape,E2.output,E2.size,fun b hb _=>hk b (by omega),E2.zle,fun b hb=>(hznew b hb).elim .inl fun h=>.inr (.inl (by omega)),fun id b hb=>.inr ⟨id,hb⟩⟩
 have p3:RV Z' [some ⟨some w.heap.size,22,1,1,1⟩] w2 (.pt 0 1 0 0) (.pointer (some ⟨w.heap.size,0,none⟩)) []:=RV.nil_keep (fun b hb=>hk b (by have:=hR.inv.zlt b hb;omega)) E2.zle (GLe.refl _) hR.ptr
 have hv3:RV Z' [some ⟨some w.heap.size,22,1,1,1⟩] w2 (.ic 179 (.sl (ints r))) v []:=RV.nil_keep (fun _ _=>rfl) (fun _ h=>h) (zBI _) hv
 refine (zXx ⟨w.heap.size,0,none⟩ r v w2 hrl i3 p3 hv3).mono ?_
 rintro e u' w3 ⟨rfl,rfl,Z3,G3,FP3,i4,hG,E4⟩
 obtain ⟨y,hy,Z5,FP5,hry,E5,hzl,hgl⟩:=zUV hr rfl rfl i4 hG
 have hE:=(hR.evo.trans E3).trans (E4.trans E5)
 refine ⟨rfl,rfl,y,hy,_,.sl (ints r),[],Z5,[],fun _=>[],[],rfl,⟨rfl,rfl⟩,rfl,HInv.empty hzl hgl,hry,by simp,by simp,by simp,GLe.refl _,hE.os,hE.tape,hE.output,hE.size,hE.keep,hE.zle,hE.znew,by simp⟩
set_option maxHeartbeats 4000000 in
theorem zQe (p:Addr) (a:Option Addr) (c:Nat) (x:Value) (w:World) (hc:(w.alloc (.cells #[] 3)).cell? p=some x) (hz:(w.alloc (.cells #[] 3)).frozen? p=false) :
  CallsD Tryz.prog 144 #[.pointer (some p)] (.panicking [{ v:=.iface 179 (.slice a 0 c),recovered:=false }]) w fun e u' w' =>
   e=.returned (.tuple #[])∧u'=.panicking [{ v:=.iface 179 (.slice a 0 c),recovered:=true }]∧w'=(w.alloc (.cells #[] 3)).setCell p (.slice (some ⟨w.heap.size,0,none⟩) 0 0):=by
 have hf:=zTP
 have hst:∀(ad:Addr) (w:World),(storeCells ad []:Sem Unit).run Tryz.prog w=.ok () w:=fun ad w=>by simp[storeCells]
 refine callsD_of_wpS Tryz.func144 rfl fun c₀ cs hu=>?_
 apply wpS_seq
 apply wpS_region
 simp[wpOpsS,go_sem,recoverD,hu,Tryz.ntmps144,Exit.thenS]
 refine wpS_of_wp ?_
 go_wp2
 ·rename_i hK
  simp only[Sem.run_pure,Result.andThen_ok,hst,Oper.upon]
  refine hK _ _ ?_
  go_wp2
  exact ⟨rfl,_,rfl,.tuple #[],by simp[results,Tryz.results144],rfl,rfl,rfl⟩
 ·rename_i hK
  simp only[Sem.run_pure,Result.andThen_ok,hst,Oper.upon]
  refine hK _ _ ?_
  go_wp2
  exact ⟨rfl,_,rfl,.tuple #[],by simp[results,Tryz.results144],rfl,rfl,rfl⟩
 ·rename_i h1 h2 h3
  cases a with
  | none=>exact (h2 0 c rfl).elim
  | some a=>exact (h1 a 0 c rfl).elim
theorem zYm {Z:Nat→Prop} {FP:Nat→List Nat} {w:World} {l:List (List Int)} {m:Nat} {all:List Int} {v0 v2:Value} (ok:TryOk l m all []) (ht:tryF l m all []=some []) (hi:HInv Z [] FP [] w) (h0:RV Z [] w (.sl (ints all)) v0 []) (h2:RV Z [] w (.sl (rws l)) v2 []) :
  Calls Tryz.prog 114 #[v0,.int .i64 m,v2] w (Post Z [] FP [] w fun x H'=>H'=[]∧∃a,x=.v (.slice (some a) 0 0)):=by
 obtain ⟨FP1,hR⟩:=room hi
 refine zH6 ?_
 refine Calls.mono (((zH2 l m all [] ok).2 [] ht).2 Z (fun _=>[]) _ _ (HInv.empty hR.inv.zlt hR.inv.glob) (zLa (m:=m) hi hR h0 h2)) ?_
 rintro e w2 ⟨v,Z',FP',rfl,i2,hv,E2⟩
 have hsz1:(w.alloc (.cells #[.slice none 0 0] 22)).heap.size=w.heap.size+1:=by simp[go_sem]
 have hk:∀b,b<w.heap.size+1→w2.heap[b]?=(w.alloc (.cells #[.slice none 0 0] 22)).heap[b]?:=fun b hb=>E2.keep b (by omega) (by simp)
 have hsz2:w.heap.size+1≤w2.heap.size:=by have:=E2.size;omega
 have hb0:w2.heap[w.heap.size]?=some (.cells #[.slice none 0 0] 22 (0,0)):=(hk _ (by omega)).trans hR.new
 have hz0:¬Z' w.heap.size:=fun h=>by
  rcases E2.znew _ h with h | h | ⟨id,h⟩
  ·have:=hi.zlt _ h;omega
  ·omega
  ·simp at h
 simp only[RV] at hv
 obtain ⟨_,z,rfl,_,a,c,rfl,_⟩:=hv
 refine ⟨_,rfl,?_⟩
 have ha0:(w2.alloc (.cells #[] 3)).heap[w.heap.size]?=some (.cells #[.slice none 0 0] 22 (0,0)):=(heap_alloc_old w2 _ (by omega)).trans hb0
 have hss:(w2.alloc (.cells #[] 3)).heap.size=w2.heap.size+1:=by simp[go_sem]
 refine (zQe ⟨w.heap.size,0,none⟩ a c (.slice none 0 0) w2 (by simp[World.cell?,ha0]) (by simp[World.frozen?,ha0])).mono ?_
 rintro e u' w3 ⟨rfl,rfl,rfl⟩
 have hone:=one_setCell (u:=.slice (some ⟨w2.heap.size,0,none⟩) 0 0) ha0
 have hs3:((w2.alloc (.cells #[] 3)).setCell ⟨w.heap.size,0,none⟩ (.slice (some ⟨w2.heap.size,0,none⟩) 0 0)).heap.size=w2.heap.size+1:=by rw[←hss];simp[World.setCell]
 have hne:∀b,b≠w.heap.size→b<w2.heap.size→((w2.alloc (.cells #[] 3)).setCell ⟨w.heap.size,0,none⟩ (.slice (some ⟨w2.heap.size,0,none⟩) 0 0)).heap[b]?=w2.heap[b]?:=fun b hb hlt=>(Below.heap_setCell _ _ _ b hb).trans (heap_alloc_old w2 _ hlt)
 refine ⟨rfl,rfl,.slice (some ⟨w2.heap.size,0,none⟩) 0 0,by simp[World.cell?,hone],?_⟩
 have hgl:Globs Z' ((w2.alloc (.cells #[] 3)).setCell ⟨w.heap.size,0,none⟩ (.slice (some ⟨w2.heap.size,0,none⟩) 0 0)):=i2.glob.keep (fun _ h=>h) (fun b hb=>hne b (fun e=>hz0 (e▸hb)) (i2.zlt b hb))
 refine ⟨_,.v (.slice (some ⟨w2.heap.size,0,none⟩) 0 0),[],Z',[],fun _=>[],[],rfl,⟨rfl,_,rfl⟩,rfl,HInv.empty (fun b hb=>by rw[hs3];have:=i2.zlt b hb;omega) hgl,by simp only[RV];exact ⟨trivial,trivial⟩,by simp,by simp,by simp,GLe.refl _,?_⟩
 refine ⟨?_,?_,?_,?_,?_,fun b hb=>E2.zle b hb,?_,by simp⟩
 ·exact E2.os.trans rfl
 ·exact E2.tape.trans rfl
 ·exact E2.output.trans rfl
 ·rw[hs3];omega
 ·intro b hb _
  rw[hne b (by omega) (by omega),hk b (by omega),hR.old b hb]
 ·intro b hb
  rcases E2.znew b hb with h | h | ⟨id,h⟩
  ·exact .inl h
  ·exact .inr (.inl (by omega))
  ·simp at h
theorem z1Y {P:Program} {f:FuncId} {fn:Func} (hf:P.funcs[f]?=some fn) (hb:fn.body.isSome=true) (hn:(fn.name == "runtime.NumGoroutine")=false) (vals:Array Value) (w:World):(callFunc f vals).run P w=.ok (.enter f vals) w:=by
 obtain ⟨c,hc⟩:=Option.isSome_iff_exists.1 hb
 have hne:¬fn.name = "runtime.NumGoroutine" :=by simpa using hn
 simp[callFunc,hf,hne,hc]
theorem zSy (l:List (List Int)) (m:Nat) (all:List Int) (ok:TryOk l m all []):HCalls Tryz.prog 114 [] [.sl (ints all),.v (.int .i64 m),.sl (rws l)] (fun x H'=>H'=[]∧match tryF l m all [] with
  | none=>x=.v (.slice none 0 0)
  | some r=>(r=[]∧∃a,x=.v (.slice (some a) 0 0))∨(r≠[]∧x=.sl (ints r))):=by
 refine ⟨z1Y (fn:=Tryz.f114) rfl rfl (by kernel_rfl),fun Z G FP w vals hi ha=>?_⟩
 obtain rfl:G=[]:=List.length_eq_zero_iff.1 hi.len
 simp only[RL] at ha
 obtain ⟨v0,_,f1,f2,rfl,hf,h0,v1,_,f3,f4,rfl,hf2,h1,v2,_,f5,f6,rfl,hf3,h2,rfl,hf4⟩:=ha
 obtain ⟨rfl,rfl⟩:=List.append_eq_nil_iff.1 hf.symm
 obtain ⟨rfl,rfl⟩:=List.append_eq_nil_iff.1 hf2.symm
 obtain ⟨rfl,_⟩:=List.append_eq_nil_iff.1 hf3.symm
 have e1:=RV_v h1
 subst e1
 cases ht:tryF l m all [] with
 | none=>exact zYl ok ht hi h0 h2
 | some r =>
  by_cases hr:r=[]
  ·subst hr
   refine Calls.mono (zYm ok ht hi h0 h2) ?_
   rintro e w' ⟨v,r,H',Z',G',FP',fr,he,⟨h1,h2⟩,rest⟩
   exact ⟨v,r,H',Z',G',FP',fr,he,⟨h1,.inl ⟨rfl,h2⟩⟩,rest⟩
  ·have hrl:r.length≤200000:=by
    obtain ⟨_,s,e,hs,hsub⟩:=zDp l m all [] r ht
    rw[List.nil_append] at e
    subst e
    have:=hsub.length_le
    have:=ok.all
    omega
   refine Calls.mono (zYk ok ht hr hrl hi h0 h2) ?_
   rintro e w' ⟨v,r,H',Z',G',FP',fr,he,⟨h1,h2⟩,rest⟩
   exact ⟨v,r,H',Z',G',FP',fr,he,⟨h1,.inr ⟨hr,h2⟩⟩,rest⟩
end Go.Proofs.YtoknohandclcbaaGreat
namespace Go.Proofs.YtoknohandclcbaaGreat
open Go.RowKit
def zUq:List HV→List HV→Prop
 | [],[]=>True
 | x::xs,y::ys=>Conv x y∧zUq xs ys
 | _,_=>False
theorem zJI {Z:Nat→Prop} {G:List (Option OG)} {w:World}:∀{xs xs' : List HV},zUq xs xs'→∀{ys:List Value},RL Z G w xs ys []→RL Z G w xs' ys []
 | [],[],_,ys,h=>h
 | x::xs,x'::xs',hc,ys,h=>by
  simp only[RL] at h⊢
  obtain ⟨y,ys',f1,f2,rfl,e,hv,hl⟩:=h
  obtain ⟨rfl,rfl⟩:=List.append_eq_nil_iff.1 e.symm
  exact ⟨y,ys',[],[],rfl,rfl,hc.1 _ _ _ _ hv,zJI hc.2 hl⟩
 | [],_::_,hc,_,_=>hc.elim
 | _::_,[],hc,_,_=>hc.elim
theorem Conv.refl (x:HV):Conv x x:=fun _ _ _ _ h=>h
theorem Conv.ag {xs ys:List HV} (h:zUq xs ys):Conv (.ag xs) (.ag ys):=fun Z G w y hv=>by
 rw[RV] at hv⊢
 obtain ⟨zs,rfl,hl⟩:=hv
 exact ⟨zs,rfl,zJI h hl⟩
theorem Conv.tu {xs ys:List HV} (h:zUq xs ys):Conv (.tu xs) (.tu ys):=fun Z G w y hv=>by
 rw[RV] at hv⊢
 obtain ⟨zs,rfl,hl⟩:=hv
 exact ⟨zs,rfl,zJI h hl⟩
theorem Conv.someSl (a:Addr):Conv (.v (.slice (some a) 0 0)) (.sl []):=fun Z G w y h=>by
 simp only[RV] at h⊢
 exact ⟨trivial,some a,0,h.2,Nat.le_refl _,by simp[maxLen],.inl trivial⟩
section
variable {P:Program}
theorem HCalls.plainQ {f:FuncId} {args:List HV} {Q:HV→Heap→Prop} {H:Heap} (h:HCalls P f [] args Q) (hnm:nmL 0 args=true):HCalls P f H args (fun r H'=>Q r []∧H'=H):=by
 refine ⟨h.1,fun Z G FP w vals hi ha=>?_⟩
 have ha' : RL Z [] w args vals []:=by
  have:=zAr args 0 G vals [] hnm ha
  simpa using this
 refine Calls.mono (h.2 Z [] _ w vals (HInv.empty hi.zlt hi.glob) ha') ?_
 rintro e w' ⟨v,r,H',Z',G',FP',fr,rfl,hq,hlen,hi',hr,hnd,hfr1,hfr2,hG,hE⟩
 have hk:∀b,b<w.heap.size→w'.heap[b]?=w.heap[b]?:=fun b hb=>hE.keep b hb (by simp)
 have hnew:∀b∈fr,w.heap.size≤b:=fun b hb=>by
  rcases hfr2 b hb with h | ⟨id,h⟩
  ·exact h
  ·simp at h
 have hznew:∀b,Z' b→Z b∨w.heap.size≤b:=fun b hb=>by
  rcases hE.znew b hb with h | h | ⟨id,h⟩
  ·exact .inl h
  ·exact .inr h
  ·simp at h
 have hH' : H'=[]:=List.eq_nil_of_length_eq_zero hlen
 subst hH'
 have hG' : G'=[]:=List.eq_nil_of_length_eq_zero hi'.len
 subst hG'
 refine ⟨v,r,H,Z',G,FP,fr,rfl,⟨hq,rfl⟩,rfl,?_,RV.keep (fun _ _=>rfl) (fun _ h=>h) (zBI G) r v fr (fun _ _=>rfl) hr,hnd,fun b hb=>?_,fun b hb=>.inl (hnew b hb),GLe.refl _,⟨hE.os,hE.tape,hE.output,hE.size,fun b hb _=>hk b hb,hE.zle,fun b hb=>?_,fun id b hb=>.inr ⟨id,hb⟩⟩⟩
 ·refine (hi.keep hE.size (fun b hb=>hk b (by
   rcases hb with hb | ⟨id,hb⟩
   ·exact hi.zlt b hb
   ·exact hi.flt id b hb))).zmore hE.zle hi'.zlt (fun id b hb hz=>?_)
  rcases hznew b hz with h | h
  ·exact hi.zfp id b hb h
  ·have:=hi.flt id b hb;omega
 ·refine ⟨(hfr1 b hb).1,(hfr1 b hb).2.1,fun id hc=>?_⟩
  have:=hi.flt id b hc;have:=hnew b hb;omega
 ·rcases hznew b hb with h | h
  ·exact .inl h
  ·exact .inr (.inl h)
end
section
variable {P:Program} {k:List Item→KS} {all l:List Oper} {d:Option Nat} {r:List Item} {T:Nat→HV} {H:Heap}
theorem zLC {fid:Nat} {args args' : List HV} {Q:HV→Heap→Prop} (spec:HCalls P fid [] args' Q) (hargs:args=args') (hnm:nmL 0 args=true) (h:∀x,Q x []→k (.ops all l::r) (updO T d (zAN x H).1) (zAN x H).2):zF4 k P fid H args all d l r T:=by
 subst hargs
 exact ⟨_,HCalls.plainQ spec hnm,fun x H' hx _=>by obtain ⟨hq,rfl⟩:=hx;exact h x hq⟩
end
theorem HCalls.hdGive {P:Program} {f:FuncId} {H:Heap} {k n:Nat} {ob:HObj} {pre post:List HV} {Q:HV→Heap→Prop} (h:HCalls P f [] (pre++.sl (fzoR ob.rows)::post) Q) (hn:nmL 0 (pre++.sl (fzoR ob.rows)::post)=true) (ho:H[k]?=some (some ob)) (hl:n=ob.rows.length):HCalls P f H (pre++.hd k 0 n::post) (fun r H'=>Q r []∧H'=H.set k none):=by
 refine ⟨h.1,fun Z G FP w vals hi ha=>?_⟩
 have hk:=hi.freeze k
 rw[z7] at ha
 obtain ⟨y1,y2,f1,f2,rfl,hf,ha1,ha2⟩:=ha
 obtain ⟨rfl,rfl⟩:=List.append_eq_nil_iff.1 hf.symm
 simp only[RL] at ha2
 obtain ⟨y,ys,f1,f2,rfl,hf2,h0,h2⟩:=ha2
 obtain ⟨rfl,rfl⟩:=List.append_eq_nil_iff.1 hf2.symm
 have hsl:RV (Zid Z FP k) (G.set k none) w (.sl (fzoR ob.rows)) y []:=by
  obtain ⟨g,hg,hOB,hV⟩:=zEM hi ho (by omega) h0
  unfold View at hV
  rw[RV]
  cases hb:g.blk with
  | none =>
   rw[hb] at hV
   obtain ⟨hy,_,h2⟩:=hV
   have hr:ob.rows=[]:=List.length_eq_zero_iff.1 (by omega)
   refine ⟨rfl,none,0,?_,?_,by simp[maxLen],.inl ?_⟩
   ·rw[hy,hr];rfl
   ·rw[hr];exact Nat.le_refl _
   ·rw[hr];rfl
  | some b =>
   rw[hb] at hV
   obtain ⟨ad,hy,ha⟩:=hV
   obtain ⟨b',cells,f,q1,q2,q3,q4,q5,q6,q7⟩:=hOB.cells_ hb
   rw[hb] at q1
   cases q1
   have ha':=ha (.inr rfl)
   refine ⟨rfl,some ad,g.cap,?_,by rw[zA3];exact q5,q6,?_⟩
   ·rw[hy,zA3,hl];rfl
   ·right
    refine ⟨b,0,by rw[ha',Nat.zero_mul],.inr (by rw[q2];simp),?_,?_⟩
    ·refine zCF (sz:=ob.sz) fun r hr=>?_
     rw[zCC] at hr
     obtain ⟨r',hr',rfl⟩:=List.mem_map.1 hr
     rw[zA4];exact hOB.len r' hr'
    ·exact zCS ob.rows G b 0 f ⟨fun b hb=>.inl hb,fun b hb=>.inr (by rw[q2];simp[hb])⟩ q7
 have hkeep:∀l ys,RL Z G w l ys []→RL (Zid Z FP k) (G.set k none) w l ys []:=fun l ys h=>RL.keep (fun _ _=>rfl) (fun b hb=>.inl hb) (GLe.kill k) l ys [] (by simp) h
 refine Calls.mono ((HCalls.plainQ h (H:=H.set k none) hn).2 _ _ _ w _ hk ((z7 _ _ _ _).2 ⟨y1,y::ys,[],[],rfl,rfl,hkeep _ _ ha1,by simp only[RL];exact ⟨y,ys,[],[],rfl,rfl,hsl,hkeep _ _ h2⟩⟩)) ?_
 rintro e w' ⟨v,r,H',Z',G',FP',fr,rfl,⟨hq,rfl⟩,hlen,hi',hr,hnd,hfr1,hfr2,hG,hE⟩
 refine ⟨v,_,_,Z',G',FP',fr,rfl,⟨hq,rfl⟩,by simp,hi',hr,hnd,hfr1,fun b hb=>?_,(GLe.kill k).trans hG,(zDK k).trans hE⟩
 rcases hfr2 b hb with h | ⟨id,h⟩
 ·exact .inl h
 ·by_cases e:id=k
  ·simp[e] at h
  ·simp only[e,if_false] at h
   exact .inr ⟨id,h⟩
theorem HCalls.convB {P:Program} {f:FuncId} {H:Heap} {args args' : List HV} {Q:HV→Heap→Prop} (h:HCalls P f H args' Q) (hc:zUq args args'):HCalls P f H args Q :=
 ⟨h.1,fun Z G FP w vals hi ha=>h.2 Z G FP w vals hi (zJI hc ha)⟩
end Go.Proofs.YtoknohandclcbaaGreat
namespace Go.Proofs.YtoknohandclcbaaGreat
open Go.RowKit
set_option maxRecDepth 8000
theorem zKy {a:List Int} {x y:Int}:y∈zGl a x↔y∈a∨y=x:=by
 unfold zGl
 split
 ·rename_i h
  constructor
  ·exact .inl
  ·rintro (h2 | rfl)
   ·exact h2
   ·exact List.mem_of_getLast? h
 ·simp
theorem zKz {y:Int}:∀(l a:List Int),y∈l.foldl zGl a↔y∈a∨y∈l
 | [],a=>by simp
 | x::l,a=>by
  rw[List.foldl_cons,zKz l,zKy]
  simp only[List.mem_cons];grind
theorem zHw:∀(l a:List Int),zHY a→(∀x∈a,∀y∈l,x≤y)→l.Pairwise (·≤·)→zHY (l.foldl zGl a)
 | [],a,h,_,_=>h
 | x::l,a,h,hx,hl=>by
  obtain ⟨h1,h2⟩:=List.pairwise_cons.1 hl
  rw[List.foldl_cons]
  refine zHw l _ ?_ (fun z hz y hy=>?_) h2
  ·unfold zGl
   split
   ·exact h
   ·rename_i hn
    refine List.pairwise_append.2 ⟨h,by simp,fun z hz y hy=>?_⟩
    obtain rfl:=List.mem_singleton.1 hy
    have hle:=hx z hz y (by simp)
    rcases Int.lt_or_eq_of_le hle with hlt | rfl
    ·exact hlt
    ·exfalso
     apply hn
     obtain ⟨b,c,rfl⟩:=List.append_of_mem hz
     rcases List.eq_nil_or_concat c with rfl | ⟨c',w,rfl⟩
     ·simp
     ·exfalso
      have hw:=hx w (by simp) z (by simp)
      have:=(List.pairwise_append.1 h).2.1
      have:=(List.pairwise_cons.1 this).1 w (by simp)
      omega
  ·rcases zKy.1 hz with hz | rfl
   ·exact hx z hz y (by simp[hy])
   ·exact h1 y hy
theorem zRV {l:List Int} {y:Int}:y∈zCH l↔y∈l:=(List.mergeSort_perm l _).mem_iff
theorem zV2 (l:List Int):(zCH l).Pairwise (·≤·):=by
 have:=List.pairwise_mergeSort (le:=fun x y:Int=>decide (x≤y)) (by simp;omega) (by simp;omega) l
 exact this.imp (by simp)
theorem zHz (l:List (List Int)):zCa (zCH l.flatten)=allN l:=by
 refine zRm (zHw _ _ List.Pairwise.nil (by simp) (zV2 _)) (zU8 l) fun y=>?_
 unfold zCa
 rw[zKz,zOV,zRV,List.mem_flatten]
 simp
def zGR:List Int×Bool→HV
 | (r,true)=>.tu [.sl (ints r),.v (.bool true)]
 | (_,false)=>.tu [.v (.slice none 0 0),.v (.bool false)]
theorem zTA (l:List Int):HFn Tryz.prog 110 [.sl (ints l)] (.v (.bool l.isEmpty)):=by
 have e:decide ((l.length:Int)=0)=l.isEmpty:=by
  cases l with
  | nil=>rfl
  | cons x l=>simp only[List.length_cons,List.isEmpty_cons,decide_eq_false_iff_not];omega
 refine zA (fn:=Tryz.f110) 6 [2] (by kernel_rfl) rfl (by kernel_rfl) (HW.run 400 (by kernel_rfl) ?_)
 simp +decide only[go_sem,nT,nA,nS,nM,nB,reduceIte,reduceCtorEq]
 rw[e]
theorem zFf (l:List (List Int)):(allN l).length≤l.flatten.length:=by
 rw[←zHz]
 exact Nat.le_trans (zUQ _) (by rw[zBA];exact Nat.le_refl _)
set_option maxHeartbeats 8000000 in
theorem zWp (l:List (List Int)) (hl:l.length≤1000) (hr:∀r∈l,r.length≤1000) (hf:l.flatten.length≤10000):HFn Tryz.prog 72 [.sl (rws l)] (zGR (zB8 l)):=by
 refine HCalls.conv (Q:=fun x _=>x=zGR (zB8 l)∨∃a,zB8 l=([],true)∧x=.tu [.v (.slice (some a) 0 0),.v (.bool true)]) ?_ ?_
 rotate_left
 ·rintro x H' (rfl | ⟨a,h,rfl⟩)
  ·exact ⟨_,rfl,.inl rfl⟩
  ·exact ⟨_,rfl,.inr ⟨rfl,by rw[h];exact Conv.tu ⟨Conv.someSl a,Conv.refl _,trivial⟩⟩⟩
 have hany:=conR l 110 [] (·.isEmpty) (by omega) (fun x _=>rfl) rfl (fun i x _ _=>zTA x)
 have hlen:=zFf l
 have hLF:zB8 l=if l.any (·.isEmpty)=true then ([],false) else zCe l (allN l) ((allN l).length+1) 0:=rfl
 have hall:¬l.any (·.isEmpty)=true→tryF l (allN l).length (allN l) []=some (allN l):=fun h=>by
  have:=zII l (allN l) [] (by rw[List.nil_append];exact zNv h)
  simpa using this
 generalize hR:zB8 l=R at hLF
 refine zA (fn:=Tryz.f72) 24 [2,3] (by kernel_rfl) rfl (by kernel_rfl) (HW.run 400 (by kernel_rfl) ?_)
 simp +decide only[go_sem,nT,nA,nS,nM,nB,reduceIte,reduceCtorEq]
 refine zC (hany) rfl rfl ?_
 cases hb:l.any (·.isEmpty) with
 | true =>
  rw[hb,if_pos rfl] at hLF
  subst hLF
  simp +decide only[go_sem,nT,nA,nS,nM,nB,reduceIte,reduceCtorEq]
  exact .inl rfl
 | false =>
  rw[hb,if_neg (by simp)] at hLF
  have hall:=hall (by rw[hb];simp)
  simp +decide only[go_sem,nT,nA,nS,nM,nB,reduceIte,reduceCtorEq]
  refine zC (zJg l (by omega) (fun r h=>by have:=hr r h;omega)) rfl rfl ?_
  simp +decide only[go_sem,nT,nA,nS,nM,nB,reduceIte,reduceCtorEq]
  refine ⟨_,zOp (id:=0) (l:=l.flatten) rfl (by omega),fun r H' hq _=>?_⟩
  obtain ⟨rfl,rfl⟩:=hq
  simp +decide only[go_sem,nT,nA,nS,nM,nB,reduceIte,reduceCtorEq]
  refine ⟨_,by rw[←zBA (l:=l.flatten)];exact zIP (zCH l.flatten) (by rw[zBA];omega),fun r H' hq _=>?_⟩
  rw[zHz] at hq
  rcases hq with ⟨rfl,rfl,he⟩ | ⟨rfl,rfl⟩
  all_goals
   simp +decide only[go_sem,nT,nA,nS,nM,nB,reduceIte,reduceCtorEq]
   first
    | refine HW.loopG (fun k T H=>∃m:Nat,k=(allN l).length+1-m∧m≤(allN l).length∧R=zCe l (allN l) ((allN l).length+1-m) m∧T 0=.sl (rws l)∧T 4=.sl (ints (allN l))∧T 5=.v (.int .i64 m)∧H=[]) ((allN l).length+1) ⟨_,_,(Ghost.freezeHd 4 0 (zCH l.flatten).length rfl rfl (by simp only[zAD])).trans (Ghost.trunc [0,4,5] 0 (by omega) ?_ ?_),0,rfl,by omega,hLF,?_,?_,?_,rfl⟩ ?_
    | refine HW.loopG (fun k T H=>∃m:Nat,k=(allN l).length+1-m∧m≤(allN l).length∧R=zCe l (allN l) ((allN l).length+1-m) m∧T 0=.sl (rws l)∧T 4=.sl (ints (allN l))∧T 5=.v (.int .i64 m)∧H=[]) ((allN l).length+1) ⟨_,_,(Ghost.freezeHd 4 1 (allN l).length rfl rfl (by simp only[zAD])).trans (Ghost.trunc [0,4,5] 0 (by omega) ?_ ?_),0,rfl,by omega,hLF,?_,?_,?_,rfl⟩ ?_
   ·simp +decide only[go_sem,nB,reduceIte]
   ·simp +decide only[go_sem,nB,reduceIte]
   ·simp +decide only[go_sem,nB,reduceIte]
   ·simp +decide only[go_sem,nB,reduceIte]
    try rw[he]
   ·simp +decide only[go_sem,nB,reduceIte]
    try rfl
   rintro k T H ⟨m,rfl,hm,hI,h0,h4,h5,rfl⟩
   refine HW.run 200 (by kernel_rfl) ?_
   rw[show (allN l).length+1-m=(allN l).length-m+1 by omega,zCe] at hI
   have hS:=zSy l m (allN l) ⟨by omega,by simp;omega,by omega,fun r h=>by have:=hr r h;omega⟩
   simp +decide only[go_sem,nT,nA,nS,nM,nB,reduceIte,reduceCtorEq,h0,h4,h5]
   refine zLC hS rfl rfl ?_
   rintro x ⟨-,hx⟩
   cases ht:tryF l m (allN l) [] with
   | none =>
    rw[ht] at hx hI
    simp only at hx hI
    subst hx
    have hmn:m≠(allN l).length:=fun e=>by rw[e,hall] at ht;cases ht
    have w1:IntKind.i64.wrap ((m:Int)+1)=((m+1:Nat):Int):=by rw[w64 (by omega) (by omega)];omega
    simp +decide only[go_sem,nT,nA,nS,nM,nB,reduceIte,reduceCtorEq,h0,h4,h5,w1]
    refine ⟨_,_,Ghost.refl,(allN l).length+1-(m+1),by omega,m+1,rfl,by omega,by rw[hI,show (allN l).length+1-(m+1)=(allN l).length-m by omega],?_,?_,?_,rfl⟩
    all_goals simp +decide only[go_sem,nB,reduceIte,h0,h4]
   | some r =>
    rw[ht] at hx hI
    simp only at hx hI
    rcases hx with ⟨rfl,a,rfl⟩ | ⟨hne,rfl⟩
    ·simp +decide only[go_sem,nT,nA,nS,nM,nB,reduceIte,reduceCtorEq,h0,h4,h5]
     exact .inr ⟨a,hI,rfl⟩
    ·have hie:(ints r).isEmpty=false:=by cases r with | nil=>exact absurd rfl hne | cons x r=>rfl
     simp +decide only[go_sem,nT,nA,nS,nM,nB,reduceIte,reduceCtorEq,h0,h4,h5,hie]
     exact .inl (by rw[hI];rfl)
end Go.Proofs.YtoknohandclcbaaGreat
namespace Go.Proofs.YtoknohandclcbaaGreat
open Go.RowKit
set_option maxRecDepth 8000
end Go.Proofs.YtoknohandclcbaaGreat
namespace Go.Proofs.YtoknohandclcbaaGreat
open Go.RowKit
set_option maxRecDepth 8000
def zEO (p:Prg):Bool:=decide (60<p.init.length) || decide (9<p.thr.length) || p.thr.any fun l=>decide (300<l.length)
theorem zKW {p:Prg} (h:zEO p=false):SmallP p:=by
 simp only[zEO,Bool.or_eq_false_iff,decide_eq_false_iff_not,List.any_eq_false] at h
 exact ⟨by omega,by omega,fun l hl=>by have:=h.2 l hl;simp at this;omega⟩
theorem zS9 (p:Prg):HFn Tryz.prog 80 [prgH p] (.v (.bool (zEO p))):=by
 refine zA (fn:=Tryz.f80) 28 [2] (by kernel_rfl) rfl (by kernel_rfl) (HW.run 400 (by kernel_rfl) ?_)
 by_cases c1:60<p.init.length
 ·have c1' : ((60:Int)<(p.init.length:Int))=True:=by simp only[eq_iff_iff,iff_true];omega
  simp +decide only[go_sem,nT,nA,nS,nM,nB,reduceIte,reduceCtorEq,c1']
  exact vb (by simp[zEO,c1])
 have c1' : ((60:Int)<(p.init.length:Int))=False:=by simp only[eq_iff_iff,iff_false];omega
 by_cases c2:9<p.thr.length
 ·have c2' : ((9:Int)<(p.thr.length:Int))=True:=by simp only[eq_iff_iff,iff_true];omega
  simp +decide only[go_sem,nT,nA,nS,nM,nB,reduceIte,reduceCtorEq,c1',c2']
  exact vb (by simp[zEO,c2])
 have c2' : ((9:Int)<(p.thr.length:Int))=False:=by simp only[eq_iff_iff,iff_false];omega
 have hG:zEO p=p.thr.any fun l=>decide (300<l.length):=by simp[zEO,c1,c2]
 simp +decide only[go_sem,nT,nA,nS,nM,nB,reduceIte,reduceCtorEq,c1',c2']
 rw[hG]
 refine HW.loopG (fun k T H=>∃i:Nat,k=p.thr.length-i∧i≤p.thr.length∧(∀j,j<i→∀l,p.thr[j]?=some l→¬300<l.length)∧T 1=.pt 0 1 0 0∧T 3=.v (.int .i64 i)∧H=[some ⟨25,2,[[.sl (ints p.init),.sl (thrs p.thr)]]⟩]) p.thr.length ⟨_,_,Ghost.refl,0,rfl,by omega,by simp,rfl,rfl,rfl⟩ ?_
 rintro k T H ⟨i,rfl,hi,hno,h1,h3,rfl⟩
 refine HW.run 200 (by kernel_rfl) ?_
 by_cases hlt:i<p.thr.length
 ·have hlt' : ((i:Int)<(p.thr.length:Int))=True:=by rw[zO];simp[hlt]
  have hx:p.thr[i]?=some p.thr[i]:=List.getElem?_eq_getElem hlt
  generalize p.thr[i]=l at hx
  by_cases c3:300<l.length
  ·have c3' : ((300:Int)<(l.length:Int))=True:=by simp only[eq_iff_iff,iff_true];omega
   simp +decide only[go_sem,nT,nA,nS,nM,nB,reduceIte,reduceCtorEq,h1,h3,hlt',hx,c3']
   exact vb (Eq.symm (List.any_eq_true.2 ⟨l,List.mem_of_getElem? hx,by simpa using c3⟩))
  ·have c3' : ((300:Int)<(l.length:Int))=False:=by simp only[eq_iff_iff,iff_false];omega
   simp +decide only[go_sem,nT,nA,nS,nM,nB,reduceIte,reduceCtorEq,h1,h3,hlt',hx,c3']
   refine ⟨_,_,Ghost.refl,p.thr.length-(i+1),by omega,i+1,rfl,by omega,?_,?_,?_,rfl⟩
   ·intro j hj y hy
    rcases Nat.lt_or_ge j i with h | h
    ·exact hno j h y hy
    ·obtain rfl:j=i:=by omega
     rw[hx] at hy;cases hy;exact c3
   all_goals first | (simp +decide only[go_sem,nB,reduceIte,h1];done) | (simp +decide only[go_sem,nB,reduceIte];rw[w64 (by omega) (by omega)];rfl)
 ·have hlt' : ((i:Int)<(p.thr.length:Int))=False:=by rw[zO];simp[hlt]
  simp +decide only[go_sem,nT,nA,nS,nM,nB,reduceIte,reduceCtorEq,h1,h3,hlt']
  refine vb (Eq.symm ?_)
  rw[List.any_eq_false]
  intro y hy
  obtain ⟨j,hj⟩:=List.mem_iff_getElem?.1 hy
  have:=hno j (by have:=(List.getElem?_eq_some_iff.1 hj).1;omega) y hj
  simpa using this
end Go.Proofs.YtoknohandclcbaaGreat
namespace Go.Proofs.YtoknohandclcbaaGreat
open Go.RowKit
set_option maxRecDepth 8000
def fnc:Stp:=⟨6,0,0,0,0⟩
def z2l (g:List Int) (a:Nat) (x:Stp):Stp:=if 8≤x.op then { x with to:=x.to+zCv g a x.to.toNat } else x
def insR (g:List Int):Nat→List Stp→List Stp
 | _,[]=>[]
 | n,x::l=>(if hasB g (n:Int)=true then [fnc] else [])++x::insR g (n+1) l
def insT (g:List Int) (a:Nat) (l:List Stp):List Stp:=(insR g a l).map (z2l g a)
def insF (g:List Int) (thr:List (List Stp)):Nat→List (List Stp)
 | 0=>[]
 | t+1=>insF g thr t++[insT g (z1 thr t) ((thr[t]?).getD [])]
def insP (p:Prg) (g:List Int):Prg:=⟨p.init,insF g p.thr p.thr.length⟩
theorem zGW (g:List Int):∀(l r:List Stp) (n:Nat),insR g n (l++r)=insR g n l++insR g (n+l.length) r
 | [],r,n=>by simp[insR]
 | x::l,r,n=>by
  simp only[List.cons_append,insR,zGW g l r (n+1),List.length_cons,List.append_assoc]
  rw[show n+1+l.length=n+(l.length+1) by omega]
theorem zSo (g:List Int) (l:List Stp) (x:Stp) (n:Nat):insR g n (l++[x])=insR g n l++((if hasB g ((n+l.length:Nat):Int)=true then [fnc] else [])++[x]):=by
 rw[zGW];rfl
theorem zWg (g:List Int) (a:Nat):∀(l:List Stp) (j:Nat),j≤l.length→(insR g a (l.take j)).length=j+zCv g a j:=by
 intro l j
 induction j with
 | zero=>intro _;simp[insR,zCv]
 | succ j ih =>
  intro hj
  have hx:l.take (j+1)=l.take j++[l[j]'(by omega)]:=by rw[List.take_add_one,List.getElem?_eq_getElem (by omega)];rfl
  rw[hx,zSo,List.length_append,ih (by omega),List.length_take,Nat.min_eq_left (by omega)]
  have e:((a+j:Nat):Int)=(a:Int)+j:=by omega
  rw[zCv,←e]
  split <;> simp <;> omega
theorem zFa (g:List Int) (thr:List (List Stp)):∀t,(insF g thr t).length=t
 | 0=>rfl
 | t+1=>by simp[insF,zFa g thr t]
theorem zNu (g:List Int) (thr:List (List Stp)):∀(m t:Nat),t<m→(insF g thr m)[t]?=some (insT g (z1 thr t) ((thr[t]?).getD []))
 | 0,t,h=>absurd h (Nat.not_lt_zero _)
 | m+1,t,h=>by
  unfold insF
  by_cases e:t<m
  ·rw[List.getElem?_append_left (by rw[zFa];exact e)]
   exact zNu g thr m t e
  ·obtain rfl:t=m:=by omega
   rw[List.getElem?_append_right (by rw[zFa];omega),zFa];simp
end Go.Proofs.YtoknohandclcbaaGreat
namespace Go.Proofs.YtoknohandclcbaaGreat
open Go.RowKit
set_option maxRecDepth 8000
def zCM:Nat→List (List Stp)→List (Nat×Nat)
 | _,[]=>[]
 | t,l::r=>(List.range l.length).map (fun a=>(t,a))++zCM (t+1) r
theorem zCZ (l:List Stp) (r:List (List Stp)):∀i,z1 (l::r) (i+1)=l.length+z1 r i
 | 0=>by simp[z1]
 | i+1=>by
  have ih:=zCZ l r i
  show z1 (l::r) (i+1)+(((l::r)[i+1]?).getD []).length=l.length+(z1 r i+((r[i]?).getD []).length)
  rw[ih,List.getElem?_cons_succ];omega
theorem zEb:∀(thr:List (List Stp)) (t0 t a:Nat) (l:List Stp),thr[t]?=some l→a<l.length→(zCM t0 thr)[z1 thr t+a]?=some (t0+t,a)
 | [],_,t,a,l,h,_=>by simp at h
 | x::r,t0,0,a,l,h,ha=>by
  simp at h;subst h
  unfold zCM z1
  rw[Nat.zero_add,List.getElem?_append_left (by simpa using ha)]
  simp[ha]
 | x::r,t0,t+1,a,l,h,ha=>by
  have ih:=zEb r (t0+1) t a l (by simpa using h) ha
  rw[zCZ]
  unfold zCM
  rw[List.getElem?_append_right (by simp;omega),List.length_map,List.length_range,show x.length+z1 r t+a-x.length=z1 r t+a by omega,ih]
  congr 2;omega
theorem zC1:∀(thr:List (List Stp)) (t0:Nat),(zCM t0 thr).length=z1 thr thr.length
 | [],_=>rfl
 | x::r,t0=>by
  unfold zCM
  rw[List.length_append,List.length_map,List.length_range,zC1 r,List.length_cons,zCZ]
def zIO (thr:List (List Stp)):List (List HV):=(zCM 0 thr).zipIdx.map fun w=>[.v (.int .i64 w.2),.ag [.v (.int .i64 w.1.1),.v (.int .i64 w.1.2)]]
theorem zFK (thr:List (List Stp)):(zIO thr).length=z1 thr thr.length:=by simp[zIO,zC1]
theorem zRX {thr:List (List Stp)} {t a:Nat} {l:List Stp} (h:thr[t]?=some l) (ha:a<l.length):(zIO thr)[z1 thr t+a]?=some [.v (.int .i64 ((z1 thr t+a:Nat):Int)),.ag [.v (.int .i64 t),.v (.int .i64 a)]]:=by
 unfold zIO
 rw[List.getElem?_map,List.getElem?_zipIdx,zEb thr 0 t a l h ha]
 simp
def AllI (p:Prg) (m id:Nat) (J:Nat→Heap→Prop) (k:Nat) (T:Nat→HV) (H:Heap):Prop:=∃i Hq,k=p.thr.length-i∧i≤p.thr.length∧J (z1 p.thr i) Hq∧Hq.length=m∧
 T 0=.yl id∧T 1=.pt m 1 0 0∧T 3=.v (.int .i64 (z1 p.thr i))∧T 8=.sl (thrs p.thr)∧T 9=.v (.int .i64 p.thr.length)∧T 10=.v (.int .i64 i)∧
 H=Hq++[some ⟨25,2,[[.sl (ints p.init),.sl (thrs p.thr)]]⟩]
set_option maxHeartbeats 8000000 in
theorem zRW (p:Prg) (hp:SmallP p) (Hc:Heap) (n:Nat) (hn:Hc[n]?=some (some ⟨25,2,[[.sl (ints p.init),.sl (thrs p.thr)]]⟩)) :
  HSeq Tryz.prog 129 Hc [.pt n 1 0 0] (Hc.set n none) (zIO p.thr):=by
 intro id J K hid hJ hK hY h0
 refine zA (fn:=Tryz.f129) 31 [] rfl rfl (by kernel_rfl) (HW.ghost (Ghost.move 1 n 1 0 0 _ rfl hn) (HW.run 60 (by kernel_rfl) ?_))
 have hl0:(Hc.set n none).length=Hc.length:=List.length_set
 have g0:∀B:Heap,getO (Hc.set n none++B) Hc.length=getO B 0:=fun B=>zA0 hl0
 simp +decide only[go_sem,nT,nA,nS,nM,nB,reduceIte,reduceCtorEq,g0]
 refine HW.loopG (AllI p Hc.length id J) p.thr.length ⟨_,_,Ghost.refl,0,_,rfl,by omega,h0,hl0,rfl,rfl,rfl,rfl,rfl,rfl,rfl⟩ ?_
 have hl:=hp.thr
 rintro k T H ⟨i,Hq,rfl,hi,hJi,hlen,h0,h1,h3,h8,h9,h10,rfl⟩
 refine HW.run 200 (by kernel_rfl) ?_
 have hsb:=zCl hp i
 by_cases hlt:i<p.thr.length
 ·have hlt' : ((i:Int)<(p.thr.length:Int))=True:=by rw[zO];simp[hlt]
  have hx:p.thr[i]?=some p.thr[i]:=List.getElem?_eq_getElem hlt
  have hxl:=hp.len _ (List.getElem_mem hlt)
  have hst:z1 p.thr (i+1)=z1 p.thr i+(p.thr[i]).length:=by show z1 p.thr i+_=_;rw[hx];rfl
  generalize p.thr[i]=l at hx hxl hst
  simp +decide only[go_sem,nT,nA,nS,nM,nB,reduceIte,reduceCtorEq,h0,h1,h3,h8,h9,h10,hlt',hx]
  refine HW.loopG (fun k T H=>∃j Hq,k=l.length-j∧j≤l.length∧J (z1 p.thr i+j) Hq∧Hq.length=Hc.length∧T 0=.yl id∧T 1=.pt Hc.length 1 0 0∧T 3=.v (.int .i64 ((z1 p.thr i+j:Nat):Int))∧T 4=.v (.int .i64 i)∧T 8=.sl (thrs p.thr)∧T 9=.v (.int .i64 p.thr.length)∧T 10=.v (.int .i64 i)∧T 16=.v (.int .i64 l.length)∧T 17=.v (.int .i64 j)∧
   H=Hq++[some ⟨25,2,[[.sl (ints p.init),.sl (thrs p.thr)]]⟩]) l.length ⟨_,_,Ghost.refl,0,Hq,rfl,by omega,hJi,hlen,?_,?_,?_,?_,?_,?_,?_,?_,?_,rfl⟩ ?_
  iterate 8 simp +decide only[go_sem,nB,reduceIte,h0,h1,h3,h8,h9,h10,Nat.add_zero]
  ·simp +decide only[go_sem,nB,reduceIte,h0];rfl
  rintro k T H ⟨j,Hq,rfl,hj,hJj,hlen,h0,h1,h3,h4,h8,h9,h10,h16,h17,rfl⟩
  refine HW.run 200 (by kernel_rfl) ?_
  by_cases hjl:j<l.length
  ·have hj' : ((j:Int)<(l.length:Int))=True:=by rw[zO];simp[hjl]
   have hX:=zRX hx hjl
   simp +decide only[go_sem,nT,nA,nS,nM,nB,reduceIte,reduceCtorEq,h0,h1,h3,h4,h8,h9,h10,h16,h17,hj']
   refine zCi hlen hid (hJ _ _ hJj).2 rfl (hY _ _ Hq hX hJj) ?_
   intro c Hq' hc' hlen'
   cases c with
   | true =>
    simp only[if_true] at hc'
    simp +decide only[go_sem,nT,nA,nS,nM,nB,reduceIte,reduceCtorEq,h0,h1,h3,h4,h8,h9,h10,h16,h17]
    refine ⟨_,_,Ghost.refl,l.length-(j+1),by omega,j+1,Hq',rfl,by omega,hc',hlen',?_,?_,?_,?_,?_,?_,?_,?_,?_,rfl⟩
    iterate 2 simp +decide only[go_sem,nB,reduceIte,h0,h1]
    ·simp +decide only[go_sem,nB,reduceIte,h3];rw[w64 (by omega) (by omega)];rfl
    iterate 5 simp +decide only[go_sem,nB,reduceIte,h4,h8,h9,h10,h16]
    ·simp +decide only[go_sem,nB,reduceIte,h17];rw[w64 (by omega) (by omega)];rfl
   | false =>
    simp only[Bool.false_eq_true,if_false] at hc'
    simp +decide only[go_sem,nT,nA,nS,nM,nB,reduceIte,reduceCtorEq,h0,h1,h3,h4,h8,h9,h10,h16,h17]
    exact zAa hlen' (hK _ _ hc') (.inr ⟨_,hc'⟩)
  ·have hj' : ((j:Int)<(l.length:Int))=False:=by rw[zO];simp[hjl]
   have e:z1 p.thr i+j=z1 p.thr (i+1):=by omega
   simp +decide only[go_sem,nT,nA,nS,nM,nB,reduceIte,reduceCtorEq,h0,h1,h3,h4,h8,h9,h10,h16,h17,hj']
   refine ⟨_,_,Ghost.refl,p.thr.length-(i+1),by omega,i+1,Hq,rfl,by omega,e▸hJj,hlen,?_,?_,?_,?_,?_,?_,rfl⟩
   iterate 2 simp +decide only[go_sem,nB,reduceIte,h0,h1]
   ·simp +decide only[go_sem,nB,reduceIte,h3];rw[e]
   iterate 2 simp +decide only[go_sem,nB,reduceIte,h8,h9]
   ·simp +decide only[go_sem,nB,reduceIte,h10];rw[w64 (by omega) (by omega)];rfl
 ·have hlt' : ((i:Int)<(p.thr.length:Int))=False:=by rw[zO];simp[hlt]
  have e:z1 p.thr i=(zIO p.thr).length:=by rw[zFK,show i=p.thr.length by omega]
  simp +decide only[go_sem,nT,nA,nS,nM,nB,reduceIte,reduceCtorEq,h0,h1,h3,h8,h9,h10,hlt']
  exact zAa hlen (hJ _ _ hJi).2 (.inl (e▸hJi))
theorem zV3 (p:Prg):HFn Tryz.prog 95 [prgH p] (.fn 129 [.bx 25 2 [.sl (ints p.init),.sl (thrs p.thr)]]):=by
 refine zA (fn:=Tryz.f95) 4 [2] (by kernel_rfl) rfl (by kernel_rfl) (HW.run 400 (by kernel_rfl) ?_)
 simp +decide only[go_sem,nT,nA,nS,nM,nB,reduceIte,reduceCtorEq]
end Go.Proofs.YtoknohandclcbaaGreat
namespace Go.Proofs.YtoknohandclcbaaGreat
open Go.RowKit
set_option maxRecDepth 8000
theorem zGk (g:List Int) (a:Int):∀{m n:Nat},m≤n→zCv g a m≤zCv g a n:=by
 intro m n h
 induction h with
 | refl=>exact Nat.le_refl _
 | step h ih=>rw[zCv];omega
theorem zWe (g:List Int) (a:Nat) (l:List Stp):(insT g a l).length=l.length+zCv g a l.length:=by
 unfold insT
 rw[List.length_map]
 have:=zWg g a l l.length (Nat.le_refl _)
 rwa [List.take_length] at this
def z4g (p:Prg):Prop:=∀l∈p.thr,l.length≤40
end Go.Proofs.YtoknohandclcbaaGreat
namespace Go.Proofs.YtoknohandclcbaaGreat
open Go.RowKit
set_option maxRecDepth 8000
def zA8 (p:Prg) (x:Stp) (a m:Nat):Bool:=decide ((1≤x.op∧x.op≤10)∧(0≤x.reg∧x.reg≤3∧(hasR x.op=true∨x.reg=0)∧(hasM x.op=true∨x.n=0))∧
 ((hasL x.op=true→0≤x.loc∧x.loc<(p.init.length:Int))∧(hasL x.op=false→x.loc=0))∧((8≤x.op→(a:Int)<x.to∧x.to≤(m:Int))∧(x.op<8→x.to=0)))
theorem zHb {p:Prg} {x:Stp} {a m:Nat}:zA8 p x a m=true↔RightX p x a m:=by
 unfold zA8
 rw[decide_eq_true_eq]
 exact ⟨fun ⟨h1,h2,h3,h4⟩=>⟨h1,h2,h3,h4⟩,fun ⟨h1,h2,h3,h4⟩=>⟨h1,h2,h3,h4⟩⟩
theorem tf (c:Prop) [Decidable c]:(c∧(c=True))∨(¬c∧(c=False)):=by
 by_cases h:c
 ·exact .inl ⟨h,eq_true h⟩
 ·exact .inr ⟨h,eq_false h⟩
set_option maxHeartbeats 40000000 in
theorem zRw (p:Prg) (x:Stp) (a m:Nat) (hi:p.init.length≤60) (ha:a≤1000) (hm:m≤1000):HFn Tryz.prog 117 [prgH p,stpH x,.v (.int .i64 a),.v (.int .i64 m)] (.v (.bool (zA8 p x a m))):=by
 refine zA (fn:=Tryz.f117) 139 [8] (by kernel_rfl) rfl (by kernel_rfl) (HW.run 400 (by kernel_rfl) ?_)
 by_cases h1:1≤x.op
 case neg =>
  have h1' : (x.op<1)=True:=by simp only[eq_iff_iff,iff_true];omega
  simp +decide only[go_sem,nT,nA,nS,nM,nB,reduceIte,reduceCtorEq,h1']
  refine vb (Eq.symm (decide_eq_false fun h=>h1 h.1.1))
 have h1' : (x.op<1)=False:=by simp only[eq_iff_iff,iff_false];omega
 by_cases h2:x.op≤10
 case neg =>
  have h2' : (10<x.op)=True:=by simp only[eq_iff_iff,iff_true];omega
  simp +decide only[go_sem,nT,nA,nS,nM,nB,reduceIte,reduceCtorEq,h1',h2']
  refine vb (Eq.symm (decide_eq_false fun h=>h2 h.1.2))
 have h2' : (10<x.op)=False:=by simp only[eq_iff_iff,iff_false];omega
 have hop:x.op=1∨x.op=2∨x.op=3∨x.op=4∨x.op=5∨x.op=6∨x.op=7∨x.op=8∨x.op=9∨x.op=10:=by omega
 rcases hop with h | h | h | h | h | h | h | h | h | h
 ·have hx:∀hh,zA8 p x a m=hh→HV.v (.bool hh)=HV.v (.bool (zA8 p x a m)):=fun hh e=>by rw[e]
  rcases tf (x.reg<0) with ⟨d0,c0⟩ | ⟨d0,c0⟩
  ·simp +decide only[go_sem,nT,nA,nS,nM,nB,reduceIte,reduceCtorEq,h,c0]
   refine hx false (decide_eq_false fun hh=>?_)
   rw[h] at hh
   simp +decide [hasR,hasL,hasM] at hh <;> omega
  rcases tf (3<x.reg) with ⟨d1,c1⟩ | ⟨d1,c1⟩
  ·simp +decide only[go_sem,nT,nA,nS,nM,nB,reduceIte,reduceCtorEq,h,c0,c1]
   refine hx false (decide_eq_false fun hh=>?_)
   rw[h] at hh
   simp +decide [hasR,hasL,hasM] at hh <;> omega
  rcases tf (x.loc=0) with ⟨d2,c2⟩ | ⟨d2,c2⟩
  rotate_left
  ·simp +decide only[go_sem,nT,nA,nS,nM,nB,reduceIte,reduceCtorEq,h,c0,c1,c2]
   refine hx false (decide_eq_false fun hh=>?_)
   rw[h] at hh
   simp +decide [hasR,hasL,hasM] at hh <;> omega
  rcases tf (x.to=0) with ⟨d3,c3⟩ | ⟨d3,c3⟩
  rotate_left
  ·simp +decide only[go_sem,nT,nA,nS,nM,nB,reduceIte,reduceCtorEq,h,c0,c1,c2,c3]
   refine hx false (decide_eq_false fun hh=>?_)
   rw[h] at hh
   simp +decide [hasR,hasL,hasM] at hh <;> omega
  simp +decide only[go_sem,nT,nA,nS,nM,nB,reduceIte,reduceCtorEq,h,c0,c1,c2,c3]
  refine hx true (decide_eq_true ?_)
  rw[h]
  simp +decide [hasR,hasL,hasM] <;> omega
 ·have hx:∀hh,zA8 p x a m=hh→HV.v (.bool hh)=HV.v (.bool (zA8 p x a m)):=fun hh e=>by rw[e]
  rcases tf (x.reg<0) with ⟨d0,c0⟩ | ⟨d0,c0⟩
  ·simp +decide only[go_sem,nT,nA,nS,nM,nB,reduceIte,reduceCtorEq,h,c0]
   refine hx false (decide_eq_false fun hh=>?_)
   rw[h] at hh
   simp +decide [hasR,hasL,hasM] at hh <;> omega
  rcases tf (3<x.reg) with ⟨d1,c1⟩ | ⟨d1,c1⟩
  ·simp +decide only[go_sem,nT,nA,nS,nM,nB,reduceIte,reduceCtorEq,h,c0,c1]
   refine hx false (decide_eq_false fun hh=>?_)
   rw[h] at hh
   simp +decide [hasR,hasL,hasM] at hh <;> omega
  rcases tf (x.n=0) with ⟨d2,c2⟩ | ⟨d2,c2⟩
  rotate_left
  ·simp +decide only[go_sem,nT,nA,nS,nM,nB,reduceIte,reduceCtorEq,h,c0,c1,c2]
   refine hx false (decide_eq_false fun hh=>?_)
   rw[h] at hh
   simp +decide [hasR,hasL,hasM] at hh <;> omega
  rcases tf (x.loc<0) with ⟨d3,c3⟩ | ⟨d3,c3⟩
  ·simp +decide only[go_sem,nT,nA,nS,nM,nB,reduceIte,reduceCtorEq,h,c0,c1,c2,c3]
   refine hx false (decide_eq_false fun hh=>?_)
   rw[h] at hh
   simp +decide [hasR,hasL,hasM] at hh <;> omega
  rcases tf ((p.init.length:Int)≤x.loc) with ⟨d4,c4⟩ | ⟨d4,c4⟩
  ·simp +decide only[go_sem,nT,nA,nS,nM,nB,reduceIte,reduceCtorEq,h,c0,c1,c2,c3,c4]
   refine hx false (decide_eq_false fun hh=>?_)
   rw[h] at hh
   simp +decide [hasR,hasL,hasM] at hh <;> omega
  rcases tf (x.to=0) with ⟨d5,c5⟩ | ⟨d5,c5⟩
  rotate_left
  ·simp +decide only[go_sem,nT,nA,nS,nM,nB,reduceIte,reduceCtorEq,h,c0,c1,c2,c3,c4,c5]
   refine hx false (decide_eq_false fun hh=>?_)
   rw[h] at hh
   simp +decide [hasR,hasL,hasM] at hh <;> omega
  simp +decide only[go_sem,nT,nA,nS,nM,nB,reduceIte,reduceCtorEq,h,c0,c1,c2,c3,c4,c5]
  refine hx true (decide_eq_true ?_)
  rw[h]
  simp +decide [hasR,hasL,hasM] <;> omega
 ·have hx:∀hh,zA8 p x a m=hh→HV.v (.bool hh)=HV.v (.bool (zA8 p x a m)):=fun hh e=>by rw[e]
  rcases tf (x.reg<0) with ⟨d0,c0⟩ | ⟨d0,c0⟩
  ·simp +decide only[go_sem,nT,nA,nS,nM,nB,reduceIte,reduceCtorEq,h,c0]
   refine hx false (decide_eq_false fun hh=>?_)
   rw[h] at hh
   simp +decide [hasR,hasL,hasM] at hh <;> omega
  rcases tf (3<x.reg) with ⟨d1,c1⟩ | ⟨d1,c1⟩
  ·simp +decide only[go_sem,nT,nA,nS,nM,nB,reduceIte,reduceCtorEq,h,c0,c1]
   refine hx false (decide_eq_false fun hh=>?_)
   rw[h] at hh
   simp +decide [hasR,hasL,hasM] at hh <;> omega
  rcases tf (x.n=0) with ⟨d2,c2⟩ | ⟨d2,c2⟩
  rotate_left
  ·simp +decide only[go_sem,nT,nA,nS,nM,nB,reduceIte,reduceCtorEq,h,c0,c1,c2]
   refine hx false (decide_eq_false fun hh=>?_)
   rw[h] at hh
   simp +decide [hasR,hasL,hasM] at hh <;> omega
  rcases tf (x.loc<0) with ⟨d3,c3⟩ | ⟨d3,c3⟩
  ·simp +decide only[go_sem,nT,nA,nS,nM,nB,reduceIte,reduceCtorEq,h,c0,c1,c2,c3]
   refine hx false (decide_eq_false fun hh=>?_)
   rw[h] at hh
   simp +decide [hasR,hasL,hasM] at hh <;> omega
  rcases tf ((p.init.length:Int)≤x.loc) with ⟨d4,c4⟩ | ⟨d4,c4⟩
  ·simp +decide only[go_sem,nT,nA,nS,nM,nB,reduceIte,reduceCtorEq,h,c0,c1,c2,c3,c4]
   refine hx false (decide_eq_false fun hh=>?_)
   rw[h] at hh
   simp +decide [hasR,hasL,hasM] at hh <;> omega
  rcases tf (x.to=0) with ⟨d5,c5⟩ | ⟨d5,c5⟩
  rotate_left
  ·simp +decide only[go_sem,nT,nA,nS,nM,nB,reduceIte,reduceCtorEq,h,c0,c1,c2,c3,c4,c5]
   refine hx false (decide_eq_false fun hh=>?_)
   rw[h] at hh
   simp +decide [hasR,hasL,hasM] at hh <;> omega
  simp +decide only[go_sem,nT,nA,nS,nM,nB,reduceIte,reduceCtorEq,h,c0,c1,c2,c3,c4,c5]
  refine hx true (decide_eq_true ?_)
  rw[h]
  simp +decide [hasR,hasL,hasM] <;> omega
 ·have hx:∀hh,zA8 p x a m=hh→HV.v (.bool hh)=HV.v (.bool (zA8 p x a m)):=fun hh e=>by rw[e]
  rcases tf (x.reg<0) with ⟨d0,c0⟩ | ⟨d0,c0⟩
  ·simp +decide only[go_sem,nT,nA,nS,nM,nB,reduceIte,reduceCtorEq,h,c0]
   refine hx false (decide_eq_false fun hh=>?_)
   rw[h] at hh
   simp +decide [hasR,hasL,hasM] at hh <;> omega
  rcases tf (3<x.reg) with ⟨d1,c1⟩ | ⟨d1,c1⟩
  ·simp +decide only[go_sem,nT,nA,nS,nM,nB,reduceIte,reduceCtorEq,h,c0,c1]
   refine hx false (decide_eq_false fun hh=>?_)
   rw[h] at hh
   simp +decide [hasR,hasL,hasM] at hh <;> omega
  rcases tf (x.reg=0) with ⟨d2,c2⟩ | ⟨d2,c2⟩
  rotate_left
  ·simp +decide only[go_sem,nT,nA,nS,nM,nB,reduceIte,reduceCtorEq,h,c0,c1,c2]
   refine hx false (decide_eq_false fun hh=>?_)
   rw[h] at hh
   simp +decide [hasR,hasL,hasM] at hh <;> omega
  rcases tf (x.loc<0) with ⟨d3,c3⟩ | ⟨d3,c3⟩
  ·simp +decide only[go_sem,nT,nA,nS,nM,nB,reduceIte,reduceCtorEq,h,c0,c1,c2,c3]
   refine hx false (decide_eq_false fun hh=>?_)
   rw[h] at hh
   simp +decide [hasR,hasL,hasM] at hh <;> omega
  rcases tf ((p.init.length:Int)≤x.loc) with ⟨d4,c4⟩ | ⟨d4,c4⟩
  ·simp +decide only[go_sem,nT,nA,nS,nM,nB,reduceIte,reduceCtorEq,h,c0,c1,c2,c3,c4]
   refine hx false (decide_eq_false fun hh=>?_)
   rw[h] at hh
   simp +decide [hasR,hasL,hasM] at hh <;> omega
  rcases tf (x.to=0) with ⟨d5,c5⟩ | ⟨d5,c5⟩
  rotate_left
  ·simp +decide only[go_sem,nT,nA,nS,nM,nB,reduceIte,reduceCtorEq,h,c0,c1,c2,c3,c4,c5]
   refine hx false (decide_eq_false fun hh=>?_)
   rw[h] at hh
   simp +decide [hasR,hasL,hasM] at hh <;> omega
  simp +decide only[go_sem,nT,nA,nS,nM,nB,reduceIte,reduceCtorEq,h,c0,c1,c2,c3,c4,c5]
  refine hx true (decide_eq_true ?_)
  rw[h]
  simp +decide [hasR,hasL,hasM] <;> omega
 ·have hx:∀hh,zA8 p x a m=hh→HV.v (.bool hh)=HV.v (.bool (zA8 p x a m)):=fun hh e=>by rw[e]
  rcases tf (x.reg<0) with ⟨d0,c0⟩ | ⟨d0,c0⟩
  ·simp +decide only[go_sem,nT,nA,nS,nM,nB,reduceIte,reduceCtorEq,h,c0]
   refine hx false (decide_eq_false fun hh=>?_)
   rw[h] at hh
   simp +decide [hasR,hasL,hasM] at hh <;> omega
  rcases tf (3<x.reg) with ⟨d1,c1⟩ | ⟨d1,c1⟩
  ·simp +decide only[go_sem,nT,nA,nS,nM,nB,reduceIte,reduceCtorEq,h,c0,c1]
   refine hx false (decide_eq_false fun hh=>?_)
   rw[h] at hh
   simp +decide [hasR,hasL,hasM] at hh <;> omega
  rcases tf (x.n=0) with ⟨d2,c2⟩ | ⟨d2,c2⟩
  rotate_left
  ·simp +decide only[go_sem,nT,nA,nS,nM,nB,reduceIte,reduceCtorEq,h,c0,c1,c2]
   refine hx false (decide_eq_false fun hh=>?_)
   rw[h] at hh
   simp +decide [hasR,hasL,hasM] at hh <;> omega
  rcases tf (x.loc<0) with ⟨d3,c3⟩ | ⟨d3,c3⟩
  ·simp +decide only[go_sem,nT,nA,nS,nM,nB,reduceIte,reduceCtorEq,h,c0,c1,c2,c3]
   refine hx false (decide_eq_false fun hh=>?_)
   rw[h] at hh
   simp +decide [hasR,hasL,hasM] at hh <;> omega
  rcases tf ((p.init.length:Int)≤x.loc) with ⟨d4,c4⟩ | ⟨d4,c4⟩
  ·simp +decide only[go_sem,nT,nA,nS,nM,nB,reduceIte,reduceCtorEq,h,c0,c1,c2,c3,c4]
   refine hx false (decide_eq_false fun hh=>?_)
   rw[h] at hh
   simp +decide [hasR,hasL,hasM] at hh <;> omega
  rcases tf (x.to=0) with ⟨d5,c5⟩ | ⟨d5,c5⟩
  rotate_left
  ·simp +decide only[go_sem,nT,nA,nS,nM,nB,reduceIte,reduceCtorEq,h,c0,c1,c2,c3,c4,c5]
   refine hx false (decide_eq_false fun hh=>?_)
   rw[h] at hh
   simp +decide [hasR,hasL,hasM] at hh <;> omega
  simp +decide only[go_sem,nT,nA,nS,nM,nB,reduceIte,reduceCtorEq,h,c0,c1,c2,c3,c4,c5]
  refine hx true (decide_eq_true ?_)
  rw[h]
  simp +decide [hasR,hasL,hasM] <;> omega
 ·have hx:∀hh,zA8 p x a m=hh→HV.v (.bool hh)=HV.v (.bool (zA8 p x a m)):=fun hh e=>by rw[e]
  rcases tf (x.reg<0) with ⟨d0,c0⟩ | ⟨d0,c0⟩
  ·simp +decide only[go_sem,nT,nA,nS,nM,nB,reduceIte,reduceCtorEq,h,c0]
   refine hx false (decide_eq_false fun hh=>?_)
   rw[h] at hh
   simp +decide [hasR,hasL,hasM] at hh <;> omega
  rcases tf (3<x.reg) with ⟨d1,c1⟩ | ⟨d1,c1⟩
  ·simp +decide only[go_sem,nT,nA,nS,nM,nB,reduceIte,reduceCtorEq,h,c0,c1]
   refine hx false (decide_eq_false fun hh=>?_)
   rw[h] at hh
   simp +decide [hasR,hasL,hasM] at hh <;> omega
  rcases tf (x.reg=0) with ⟨d2,c2⟩ | ⟨d2,c2⟩
  rotate_left
  ·simp +decide only[go_sem,nT,nA,nS,nM,nB,reduceIte,reduceCtorEq,h,c0,c1,c2]
   refine hx false (decide_eq_false fun hh=>?_)
   rw[h] at hh
   simp +decide [hasR,hasL,hasM] at hh <;> omega
  rcases tf (x.n=0) with ⟨d3,c3⟩ | ⟨d3,c3⟩
  rotate_left
  ·simp +decide only[go_sem,nT,nA,nS,nM,nB,reduceIte,reduceCtorEq,h,c0,c1,c2,c3]
   refine hx false (decide_eq_false fun hh=>?_)
   rw[h] at hh
   simp +decide [hasR,hasL,hasM] at hh <;> omega
  rcases tf (x.loc=0) with ⟨d4,c4⟩ | ⟨d4,c4⟩
  rotate_left
  ·simp +decide only[go_sem,nT,nA,nS,nM,nB,reduceIte,reduceCtorEq,h,c0,c1,c2,c3,c4]
   refine hx false (decide_eq_false fun hh=>?_)
   rw[h] at hh
   simp +decide [hasR,hasL,hasM] at hh <;> omega
  rcases tf (x.to=0) with ⟨d5,c5⟩ | ⟨d5,c5⟩
  rotate_left
  ·simp +decide only[go_sem,nT,nA,nS,nM,nB,reduceIte,reduceCtorEq,h,c0,c1,c2,c3,c4,c5]
   refine hx false (decide_eq_false fun hh=>?_)
   rw[h] at hh
   simp +decide [hasR,hasL,hasM] at hh <;> omega
  simp +decide only[go_sem,nT,nA,nS,nM,nB,reduceIte,reduceCtorEq,h,c0,c1,c2,c3,c4,c5]
  refine hx true (decide_eq_true ?_)
  rw[h]
  simp +decide [hasR,hasL,hasM] <;> omega
 ·have hx:∀hh,zA8 p x a m=hh→HV.v (.bool hh)=HV.v (.bool (zA8 p x a m)):=fun hh e=>by rw[e]
  rcases tf (x.reg<0) with ⟨d0,c0⟩ | ⟨d0,c0⟩
  ·simp +decide only[go_sem,nT,nA,nS,nM,nB,reduceIte,reduceCtorEq,h,c0]
   refine hx false (decide_eq_false fun hh=>?_)
   rw[h] at hh
   simp +decide [hasR,hasL,hasM] at hh <;> omega
  rcases tf (3<x.reg) with ⟨d1,c1⟩ | ⟨d1,c1⟩
  ·simp +decide only[go_sem,nT,nA,nS,nM,nB,reduceIte,reduceCtorEq,h,c0,c1]
   refine hx false (decide_eq_false fun hh=>?_)
   rw[h] at hh
   simp +decide [hasR,hasL,hasM] at hh <;> omega
  rcases tf (x.loc=0) with ⟨d2,c2⟩ | ⟨d2,c2⟩
  rotate_left
  ·simp +decide only[go_sem,nT,nA,nS,nM,nB,reduceIte,reduceCtorEq,h,c0,c1,c2]
   refine hx false (decide_eq_false fun hh=>?_)
   rw[h] at hh
   simp +decide [hasR,hasL,hasM] at hh <;> omega
  rcases tf (x.to=0) with ⟨d3,c3⟩ | ⟨d3,c3⟩
  rotate_left
  ·simp +decide only[go_sem,nT,nA,nS,nM,nB,reduceIte,reduceCtorEq,h,c0,c1,c2,c3]
   refine hx false (decide_eq_false fun hh=>?_)
   rw[h] at hh
   simp +decide [hasR,hasL,hasM] at hh <;> omega
  simp +decide only[go_sem,nT,nA,nS,nM,nB,reduceIte,reduceCtorEq,h,c0,c1,c2,c3]
  refine hx true (decide_eq_true ?_)
  rw[h]
  simp +decide [hasR,hasL,hasM] <;> omega
 ·have hx:∀hh,zA8 p x a m=hh→HV.v (.bool hh)=HV.v (.bool (zA8 p x a m)):=fun hh e=>by rw[e]
  rcases tf (x.reg<0) with ⟨d0,c0⟩ | ⟨d0,c0⟩
  ·simp +decide only[go_sem,nT,nA,nS,nM,nB,reduceIte,reduceCtorEq,h,c0]
   refine hx false (decide_eq_false fun hh=>?_)
   rw[h] at hh
   simp +decide [hasR,hasL,hasM] at hh <;> omega
  rcases tf (3<x.reg) with ⟨d1,c1⟩ | ⟨d1,c1⟩
  ·simp +decide only[go_sem,nT,nA,nS,nM,nB,reduceIte,reduceCtorEq,h,c0,c1]
   refine hx false (decide_eq_false fun hh=>?_)
   rw[h] at hh
   simp +decide [hasR,hasL,hasM] at hh <;> omega
  rcases tf (x.reg=0) with ⟨d2,c2⟩ | ⟨d2,c2⟩
  rotate_left
  ·simp +decide only[go_sem,nT,nA,nS,nM,nB,reduceIte,reduceCtorEq,h,c0,c1,c2]
   refine hx false (decide_eq_false fun hh=>?_)
   rw[h] at hh
   simp +decide [hasR,hasL,hasM] at hh <;> omega
  rcases tf (x.n=0) with ⟨d3,c3⟩ | ⟨d3,c3⟩
  rotate_left
  ·simp +decide only[go_sem,nT,nA,nS,nM,nB,reduceIte,reduceCtorEq,h,c0,c1,c2,c3]
   refine hx false (decide_eq_false fun hh=>?_)
   rw[h] at hh
   simp +decide [hasR,hasL,hasM] at hh <;> omega
  rcases tf (x.loc=0) with ⟨d4,c4⟩ | ⟨d4,c4⟩
  rotate_left
  ·simp +decide only[go_sem,nT,nA,nS,nM,nB,reduceIte,reduceCtorEq,h,c0,c1,c2,c3,c4]
   refine hx false (decide_eq_false fun hh=>?_)
   rw[h] at hh
   simp +decide [hasR,hasL,hasM] at hh <;> omega
  rcases tf ((a:Int)<x.to) with ⟨d5,c5⟩ | ⟨d5,c5⟩
  rotate_left
  ·simp +decide only[go_sem,nT,nA,nS,nM,nB,reduceIte,reduceCtorEq,h,c0,c1,c2,c3,c4,c5]
   refine hx false (decide_eq_false fun hh=>?_)
   rw[h] at hh
   simp +decide [hasR,hasL,hasM] at hh <;> omega
  rcases tf (x.to≤(m:Int)) with ⟨d6,c6⟩ | ⟨d6,c6⟩
  rotate_left
  ·simp +decide only[go_sem,nT,nA,nS,nM,nB,reduceIte,reduceCtorEq,h,c0,c1,c2,c3,c4,c5,c6]
   refine hx false (decide_eq_false fun hh=>?_)
   rw[h] at hh
   simp +decide [hasR,hasL,hasM] at hh <;> omega
  simp +decide only[go_sem,nT,nA,nS,nM,nB,reduceIte,reduceCtorEq,h,c0,c1,c2,c3,c4,c5,c6]
  refine hx true (decide_eq_true ?_)
  rw[h]
  simp +decide [hasR,hasL,hasM] <;> omega
 ·have hx:∀hh,zA8 p x a m=hh→HV.v (.bool hh)=HV.v (.bool (zA8 p x a m)):=fun hh e=>by rw[e]
  rcases tf (x.reg<0) with ⟨d0,c0⟩ | ⟨d0,c0⟩
  ·simp +decide only[go_sem,nT,nA,nS,nM,nB,reduceIte,reduceCtorEq,h,c0]
   refine hx false (decide_eq_false fun hh=>?_)
   rw[h] at hh
   simp +decide [hasR,hasL,hasM] at hh <;> omega
  rcases tf (3<x.reg) with ⟨d1,c1⟩ | ⟨d1,c1⟩
  ·simp +decide only[go_sem,nT,nA,nS,nM,nB,reduceIte,reduceCtorEq,h,c0,c1]
   refine hx false (decide_eq_false fun hh=>?_)
   rw[h] at hh
   simp +decide [hasR,hasL,hasM] at hh <;> omega
  rcases tf (x.reg=0) with ⟨d2,c2⟩ | ⟨d2,c2⟩
  rotate_left
  ·simp +decide only[go_sem,nT,nA,nS,nM,nB,reduceIte,reduceCtorEq,h,c0,c1,c2]
   refine hx false (decide_eq_false fun hh=>?_)
   rw[h] at hh
   simp +decide [hasR,hasL,hasM] at hh <;> omega
  rcases tf (x.n=0) with ⟨d3,c3⟩ | ⟨d3,c3⟩
  rotate_left
  ·simp +decide only[go_sem,nT,nA,nS,nM,nB,reduceIte,reduceCtorEq,h,c0,c1,c2,c3]
   refine hx false (decide_eq_false fun hh=>?_)
   rw[h] at hh
   simp +decide [hasR,hasL,hasM] at hh <;> omega
  rcases tf (x.loc=0) with ⟨d4,c4⟩ | ⟨d4,c4⟩
  rotate_left
  ·simp +decide only[go_sem,nT,nA,nS,nM,nB,reduceIte,reduceCtorEq,h,c0,c1,c2,c3,c4]
   refine hx false (decide_eq_false fun hh=>?_)
   rw[h] at hh
   simp +decide [hasR,hasL,hasM] at hh <;> omega
  rcases tf ((a:Int)<x.to) with ⟨d5,c5⟩ | ⟨d5,c5⟩
  rotate_left
  ·simp +decide only[go_sem,nT,nA,nS,nM,nB,reduceIte,reduceCtorEq,h,c0,c1,c2,c3,c4,c5]
   refine hx false (decide_eq_false fun hh=>?_)
   rw[h] at hh
   simp +decide [hasR,hasL,hasM] at hh <;> omega
  rcases tf (x.to≤(m:Int)) with ⟨d6,c6⟩ | ⟨d6,c6⟩
  rotate_left
  ·simp +decide only[go_sem,nT,nA,nS,nM,nB,reduceIte,reduceCtorEq,h,c0,c1,c2,c3,c4,c5,c6]
   refine hx false (decide_eq_false fun hh=>?_)
   rw[h] at hh
   simp +decide [hasR,hasL,hasM] at hh <;> omega
  simp +decide only[go_sem,nT,nA,nS,nM,nB,reduceIte,reduceCtorEq,h,c0,c1,c2,c3,c4,c5,c6]
  refine hx true (decide_eq_true ?_)
  rw[h]
  simp +decide [hasR,hasL,hasM] <;> omega
 ·have hx:∀hh,zA8 p x a m=hh→HV.v (.bool hh)=HV.v (.bool (zA8 p x a m)):=fun hh e=>by rw[e]
  rcases tf (x.reg<0) with ⟨d0,c0⟩ | ⟨d0,c0⟩
  ·simp +decide only[go_sem,nT,nA,nS,nM,nB,reduceIte,reduceCtorEq,h,c0]
   refine hx false (decide_eq_false fun hh=>?_)
   rw[h] at hh
   simp +decide [hasR,hasL,hasM] at hh <;> omega
  rcases tf (3<x.reg) with ⟨d1,c1⟩ | ⟨d1,c1⟩
  ·simp +decide only[go_sem,nT,nA,nS,nM,nB,reduceIte,reduceCtorEq,h,c0,c1]
   refine hx false (decide_eq_false fun hh=>?_)
   rw[h] at hh
   simp +decide [hasR,hasL,hasM] at hh <;> omega
  rcases tf (x.reg=0) with ⟨d2,c2⟩ | ⟨d2,c2⟩
  rotate_left
  ·simp +decide only[go_sem,nT,nA,nS,nM,nB,reduceIte,reduceCtorEq,h,c0,c1,c2]
   refine hx false (decide_eq_false fun hh=>?_)
   rw[h] at hh
   simp +decide [hasR,hasL,hasM] at hh <;> omega
  rcases tf (x.n=0) with ⟨d3,c3⟩ | ⟨d3,c3⟩
  rotate_left
  ·simp +decide only[go_sem,nT,nA,nS,nM,nB,reduceIte,reduceCtorEq,h,c0,c1,c2,c3]
   refine hx false (decide_eq_false fun hh=>?_)
   rw[h] at hh
   simp +decide [hasR,hasL,hasM] at hh <;> omega
  rcases tf (x.loc=0) with ⟨d4,c4⟩ | ⟨d4,c4⟩
  rotate_left
  ·simp +decide only[go_sem,nT,nA,nS,nM,nB,reduceIte,reduceCtorEq,h,c0,c1,c2,c3,c4]
   refine hx false (decide_eq_false fun hh=>?_)
   rw[h] at hh
   simp +decide [hasR,hasL,hasM] at hh <;> omega
  rcases tf ((a:Int)<x.to) with ⟨d5,c5⟩ | ⟨d5,c5⟩
  rotate_left
  ·simp +decide only[go_sem,nT,nA,nS,nM,nB,reduceIte,reduceCtorEq,h,c0,c1,c2,c3,c4,c5]
   refine hx false (decide_eq_false fun hh=>?_)
   rw[h] at hh
   simp +decide [hasR,hasL,hasM] at hh <;> omega
  rcases tf (x.to≤(m:Int)) with ⟨d6,c6⟩ | ⟨d6,c6⟩
  rotate_left
  ·simp +decide only[go_sem,nT,nA,nS,nM,nB,reduceIte,reduceCtorEq,h,c0,c1,c2,c3,c4,c5,c6]
   refine hx false (decide_eq_false fun hh=>?_)
   rw[h] at hh
   simp +decide [hasR,hasL,hasM] at hh <;> omega
  simp +decide only[go_sem,nT,nA,nS,nM,nB,reduceIte,reduceCtorEq,h,c0,c1,c2,c3,c4,c5,c6]
  refine hx true (decide_eq_true ?_)
  rw[h]
  simp +decide [hasR,hasL,hasM] <;> omega
end Go.Proofs.YtoknohandclcbaaGreat
namespace Go.Proofs.YtoknohandclcbaaGreat
open Go.RowKit
set_option maxRecDepth 8000
def zD7 (p:Prg) (l:List Stp) (i:Nat):Bool:=match l[i]? with | some x=>zA8 p x i l.length | none=>true
def zBm (p:Prg) (l:List Stp):Bool:=decide (l.length≤80) && (List.range l.length).all (zD7 p l)
def zCI (p:Prg):Bool:=decide (p.init.length≤4∧1≤p.thr.length∧p.thr.length≤3) && p.thr.all (zBm p)
theorem zGB {p:Prg}:zCI p=true↔RightP p:=by
 unfold zCI
 rw[Bool.and_eq_true,decide_eq_true_eq,List.all_eq_true]
 constructor
 ·rintro ⟨⟨h1,h2,h3⟩,h⟩
  refine ⟨h1,⟨h2,h3⟩,fun l hl=>?_,fun t l hl i x hx=>?_⟩
  ·have:=h l hl
   unfold zBm at this
   rw[Bool.and_eq_true,decide_eq_true_eq] at this
   exact this.1
  ·have:=h l (List.mem_of_getElem? hl)
   unfold zBm at this
   rw[Bool.and_eq_true,List.all_eq_true] at this
   have hi:=(List.getElem?_eq_some_iff.1 hx).1
   have:=this.2 i (List.mem_range.2 hi)
   unfold zD7 at this
   rw[hx] at this
   exact zHb.1 this
 ·intro h
  refine ⟨⟨h.init,h.thr.1,h.thr.2⟩,fun l hl=>?_⟩
  unfold zBm
  rw[Bool.and_eq_true,decide_eq_true_eq,List.all_eq_true]
  refine ⟨h.len l hl,fun i hi=>?_⟩
  obtain ⟨t,ht⟩:=List.getElem?_of_mem hl
  have hi:=List.mem_range.1 hi
  unfold zD7
  rw[List.getElem?_eq_getElem hi]
  exact zHb.2 (h.x t l ht i _ (List.getElem?_eq_getElem hi))
set_option maxHeartbeats 8000000 in
theorem zRx (p:Prg) (hp:SmallP p):HFn Tryz.prog 81 [prgH p] (.v (.bool (zCI p))):=by
 have hi:=hp.init
 have hl:=hp.thr
 refine zA (fn:=Tryz.f81) 63 [2] (by kernel_rfl) rfl (by kernel_rfl) (HW.run 400 (by kernel_rfl) ?_)
 rcases tf ((4:Int)<(p.init.length:Int)) with ⟨d1,c1⟩ | ⟨d1,c1⟩
 ·simp +decide only[go_sem,nT,nA,nS,nM,nB,reduceIte,reduceCtorEq,c1]
  refine vb (Eq.symm ?_)
  unfold zCI
  rw[decide_eq_false (fun h=>by omega)];rfl
 rcases tf ((p.thr.length:Int)<1) with ⟨d2,c2⟩ | ⟨d2,c2⟩
 ·simp +decide only[go_sem,nT,nA,nS,nM,nB,reduceIte,reduceCtorEq,c1,c2]
  refine vb (Eq.symm ?_)
  unfold zCI
  rw[decide_eq_false (fun h=>by omega)];rfl
 rcases tf ((3:Int)<(p.thr.length:Int)) with ⟨d3,c3⟩ | ⟨d3,c3⟩
 ·simp +decide only[go_sem,nT,nA,nS,nM,nB,reduceIte,reduceCtorEq,c1,c2,c3]
  refine vb (Eq.symm ?_)
  unfold zCI
  rw[decide_eq_false (fun h=>by omega)];rfl
 have hR:zCI p=p.thr.all (zBm p):=by
  unfold zCI
  rw[decide_eq_true (by omega)];rfl
 have bad:∀(i:Nat) l,p.thr[i]?=some l→zBm p l=false→HV.v (.bool false)=HV.v (.bool (p.thr.all (zBm p))):=fun i l hx hb=>by
  refine vb (Eq.symm ?_)
  rw[List.all_eq_false]
  exact ⟨l,List.mem_of_getElem? hx,by rw[hb];simp⟩
 rw[hR]
 simp +decide only[go_sem,nT,nA,nS,nM,nB,reduceIte,reduceCtorEq,c1,c2,c3]
 refine HW.loopG (fun k T H=>∃i:Nat,k=p.thr.length-i∧i≤p.thr.length∧(∀j,j<i→∀l,p.thr[j]?=some l→zBm p l=true)∧T 1=.pt 0 1 0 0∧T 3=.v (.int .i64 i)∧H=[some ⟨25,2,[[.sl (ints p.init),.sl (thrs p.thr)]]⟩]) p.thr.length ⟨_,_,Ghost.refl,0,rfl,by omega,by simp,rfl,rfl,rfl⟩ ?_
 rintro k T H ⟨i,rfl,hi,hno,h1,h3,rfl⟩
 refine HW.run 200 (by kernel_rfl) ?_
 by_cases hlt:i<p.thr.length
 ·have hlt' : ((i:Int)<(p.thr.length:Int))=True:=by rw[zO];simp[hlt]
  have hx:p.thr[i]?=some p.thr[i]:=List.getElem?_eq_getElem hlt
  have hxl:=hp.len _ (List.getElem_mem hlt)
  have hbad:=bad i _ hx
  generalize p.thr[i]=l at hx hxl hbad
  rcases tf ((80:Int)<(l.length:Int)) with ⟨d4,c4⟩ | ⟨d4,c4⟩
  ·simp +decide only[go_sem,nT,nA,nS,nM,nB,reduceIte,reduceCtorEq,h1,h3,hlt',hx,c4]
   refine hbad ?_
   unfold zBm
   rw[decide_eq_false (by omega)];rfl
  have hT:zBm p l=(List.range l.length).all (zD7 p l):=by
   unfold zBm
   rw[decide_eq_true (by omega)];rfl
  simp +decide only[go_sem,nT,nA,nS,nM,nB,reduceIte,reduceCtorEq,h1,h3,hlt',hx,c4]
  refine HW.loopG (fun k T H=>∃j:Nat,k=l.length-j∧j≤l.length∧(∀q,q<j→zD7 p l q=true)∧T 1=.pt 0 1 0 0∧T 3=.v (.int .i64 i)∧T 4=.v (.int .i64 j)∧H=[some ⟨25,2,[[.sl (ints p.init),.sl (thrs p.thr)]]⟩]) l.length ⟨_,_,Ghost.refl,0,rfl,by omega,by simp,?_,?_,?_,rfl⟩ ?_
  iterate 2 simp +decide only[go_sem,nB,reduceIte,h1,h3]
  ·simp +decide only[go_sem,nB,reduceIte];rfl
  clear h1 h3 T
  rintro k T H ⟨j,rfl,hj,hall,h1,h3,h4,rfl⟩
  refine HW.run 200 (by kernel_rfl) ?_
  by_cases hjl:j<l.length
  ·have hj' : ((j:Int)<(l.length:Int))=True:=by rw[zO];simp[hjl]
   have hy:l[j]?=some l[j]:=List.getElem?_eq_getElem hjl
   have hA:zD7 p l j=zA8 p l[j] j l.length:=by unfold zD7;rw[hy]
   generalize l[j]=y at hy hA
   simp +decide only[go_sem,nT,nA,nS,nM,nB,reduceIte,reduceCtorEq,h1,h3,h4,hlt',hx,hj',hy]
   refine HW.tree 1 (.light 0 (.light 1 (.light 2 (.light 3 (.light 4 (.light 5 (.light 6 (.light 7 (.light 8 (.light 9 (.light 10 (.light 11 (.light 12 (.light 13 (.light 14 (.light 15 (.heavy 16 [] (.light 17 .leaf) .stop))))))))))))))))) follows (by kernel_rfl) (by kernel_rfl) ?_
   simp +decide only[go_sem,nT,nA,nS,nM,nB,reduceIte,reduceCtorEq,h1,h3,h4,hlt',hx,hj',hy]
   refine zC (zRw p y j l.length (by omega) (by omega) (by omega)) rfl rfl ?_
   cases hb:zA8 p y j l.length with
   | true =>
    simp +decide only[go_sem,nT,nA,nS,nM,nB,reduceIte,reduceCtorEq,h1,h3,h4,hlt',hx,hj',hy]
    refine ⟨_,_,Ghost.refl,l.length-(j+1),by omega,j+1,rfl,by omega,fun q hq=>?_,?_,?_,?_,rfl⟩
    ·rcases Nat.lt_or_ge q j with h | h
     ·exact hall q h
     ·obtain rfl:q=j:=by omega
      rw[hA,hb]
    iterate 2 simp +decide only[go_sem,nB,reduceIte,h1,h3]
    ·simp +decide only[go_sem,nB,reduceIte];rw[w64 (by omega) (by omega)];rfl
   | false =>
    simp +decide only[go_sem,nT,nA,nS,nM,nB,reduceIte,reduceCtorEq,h1,h3,h4,hlt',hx,hj',hy]
    refine hbad ?_
    rw[hT,List.all_eq_false]
    exact ⟨j,List.mem_range.2 hjl,by rw[hA,hb];simp⟩
  ·have hj' : ((j:Int)<(l.length:Int))=False:=by rw[zO];simp[hjl]
   simp +decide only[go_sem,nT,nA,nS,nM,nB,reduceIte,reduceCtorEq,h1,h3,h4,hlt',hx,hj']
   refine ⟨_,_,Ghost.refl,p.thr.length-(i+1),by omega,i+1,rfl,by omega,fun q hq z hz=>?_,?_,?_,rfl⟩
   ·rcases Nat.lt_or_ge q i with h | h
    ·exact hno q h z hz
    ·obtain rfl:q=i:=by omega
     rw[hx] at hz;cases hz
     rw[hT,List.all_eq_true]
     exact fun k hk=>hall k (by have:=List.mem_range.1 hk;omega)
   ·simp +decide only[go_sem,nB,reduceIte,h1]
   ·simp +decide only[go_sem,nB,reduceIte];rw[w64 (by omega) (by omega)];rfl
 ·have hlt' : ((i:Int)<(p.thr.length:Int))=False:=by rw[zO];simp[hlt]
  simp +decide only[go_sem,nT,nA,nS,nM,nB,reduceIte,reduceCtorEq,h1,h3,hlt']
  refine vb (Eq.symm ?_)
  rw[List.all_eq_true]
  intro y hy
  obtain ⟨j,hj⟩:=List.mem_iff_getElem?.1 hy
  exact hno j (by have:=(List.getElem?_eq_some_iff.1 hj).1;omega) y hj
def zEN (p:Prg):Bool:=zEO p || !zCI p || p.thr.any fun l=>decide (40<l.length)
theorem zKV {p:Prg} (h:zEN p=false):RightP p∧z4g p:=by
 simp only[zEN,Bool.or_eq_false_iff,Bool.not_eq_false',List.any_eq_false] at h
 exact ⟨zGB.1 h.1.2,fun l hl=>by have:=h.2 l hl;simp at this;omega⟩
set_option maxHeartbeats 8000000 in
theorem zS8 (p:Prg):HFn Tryz.prog 45 [prgH p] (.v (.bool (zEN p))):=by
 refine zA (fn:=Tryz.f45) 25 [2] (by kernel_rfl) rfl (by kernel_rfl) (HW.run 400 (by kernel_rfl) ?_)
 simp +decide only[go_sem,nT,nA,nS,nM,nB,reduceIte,reduceCtorEq]
 refine zC (zS9 p) rfl rfl ?_
 cases hg:zEO p with
 | true =>
  simp +decide only[go_sem,nT,nA,nS,nM,nB,reduceIte,reduceCtorEq]
  exact vb (by unfold zEN;rw[hg];rfl)
 | false =>
  have hsm:=zKW hg
  have hl:=hsm.thr
  simp +decide only[go_sem,nT,nA,nS,nM,nB,reduceIte,reduceCtorEq]
  refine zC (zRx p hsm) rfl rfl ?_
  cases hr:zCI p with
  | false =>
   simp +decide only[go_sem,nT,nA,nS,nM,nB,reduceIte,reduceCtorEq]
   exact vb (by unfold zEN;rw[hg,hr];rfl)
  | true =>
   have hG:zEN p=p.thr.any fun l=>decide (40<l.length):=by unfold zEN;rw[hg,hr];rfl
   rw[hG]
   simp +decide only[go_sem,nT,nA,nS,nM,nB,reduceIte,reduceCtorEq]
   refine HW.loopG (fun k T H=>∃i:Nat,k=p.thr.length-i∧i≤p.thr.length∧(∀j,j<i→∀l,p.thr[j]?=some l→¬40<l.length)∧T 1=.pt 0 1 0 0∧T 3=.v (.int .i64 i)∧H=[some ⟨25,2,[[.sl (ints p.init),.sl (thrs p.thr)]]⟩]) p.thr.length ⟨_,_,Ghost.refl,0,rfl,by omega,by simp,rfl,rfl,rfl⟩ ?_
   rintro k T H ⟨i,rfl,hi,hno,h1,h3,rfl⟩
   refine HW.run 200 (by kernel_rfl) ?_
   by_cases hlt:i<p.thr.length
   ·have hlt' : ((i:Int)<(p.thr.length:Int))=True:=by rw[zO];simp[hlt]
    have hx:p.thr[i]?=some p.thr[i]:=List.getElem?_eq_getElem hlt
    generalize p.thr[i]=l at hx
    by_cases c3:40<l.length
    ·have c3' : ((40:Int)<(l.length:Int))=True:=by simp only[eq_iff_iff,iff_true];omega
     simp +decide only[go_sem,nT,nA,nS,nM,nB,reduceIte,reduceCtorEq,h1,h3,hlt',hx,c3']
     exact vb (Eq.symm (List.any_eq_true.2 ⟨l,List.mem_of_getElem? hx,by simpa using c3⟩))
    ·have c3' : ((40:Int)<(l.length:Int))=False:=by simp only[eq_iff_iff,iff_false];omega
     simp +decide only[go_sem,nT,nA,nS,nM,nB,reduceIte,reduceCtorEq,h1,h3,hlt',hx,c3']
     refine ⟨_,_,Ghost.refl,p.thr.length-(i+1),by omega,i+1,rfl,by omega,?_,?_,?_,rfl⟩
     ·intro j hj y hy
      rcases Nat.lt_or_ge j i with h | h
      ·exact hno j h y hy
      ·obtain rfl:j=i:=by omega
       rw[hx] at hy;cases hy;exact c3
     all_goals first | (simp +decide only[go_sem,nB,reduceIte,h1];done) | (simp +decide only[go_sem,nB,reduceIte];rw[w64 (by omega) (by omega)];rfl)
   ·have hlt' : ((i:Int)<(p.thr.length:Int))=False:=by rw[zO];simp[hlt]
    simp +decide only[go_sem,nT,nA,nS,nM,nB,reduceIte,reduceCtorEq,h1,h3,hlt']
    refine vb (Eq.symm ?_)
    rw[List.any_eq_false]
    intro y hy
    obtain ⟨j,hj⟩:=List.mem_iff_getElem?.1 hy
    have:=hno j (by have:=(List.getElem?_eq_some_iff.1 hj).1;omega) y hj
    simpa using this
end Go.Proofs.YtoknohandclcbaaGreat
namespace Go.Proofs.YtoknohandclcbaaGreat
open Go.RowKit
set_option maxRecDepth 8000
abbrev zF3 (k:Pck) (t:Thd):HV:=.ag [.v (.int .i64 k.th),.v (.bool k.dr),.v (.int .i64 t.pc),.v (.bool (decide ((0:Int)<(t.buf.length:Int))))]
abbrev badH:HV:=.ag [.v (.int .i64 (-1)),.v (.bool false),.v (.int .i64 0),.v (.bool false)]
def zA1 (p:Prg):Sta→List Pck→List (List HV)
 | _,[]=>[]
 | s,k::l=>if (zAG p s k).2=true then [zF3 k (thAt s k.th)]::zA1 p (zAG p s k).1 l else [[badH]]
theorem zBv (p:Prg) (s:Sta) (k:Pck) (l:List Pck):zA1 p s (k::l)=if (zAG p s k).2=true then [zF3 k (thAt s k.th)]::zA1 p (zAG p s k).1 l else [[badH]]:=rfl
theorem zVA (p:Prg) (s:Sta) (k:Pck) (hp:RightP p) (hs:RightS p s) (hb:∀t∈s.ths,t.buf.length≤100000):HFn Tryz.prog 94 [prgH p,staH s,pckH k] (.tu [staH (zAG p s k).1,.v (.bool (zAG p s k).2)]) :=
 (zRA p s k hp hs hb).shut (by simp only[fzo,fzoL,zAO,zCL])
theorem zIM {p:Prg} {s:Sta} {k:Pck} (h:(zAG p s k).2=true):0≤k.th∧k.th<s.ths.length:=by
 unfold zAG at h
 split at h
 ·cases h
 ·rename_i hc;exact Decidable.not_not.1 hc
theorem zHu (p:Prg) (l:List Pck):HFn Tryz.prog 60 [prgH p,.sl (pcks l)] (.fn 92 [.bx 25 2 [.sl (ints p.init),.sl (thrs p.thr)],.bx 32 1 [.sl (pcks l)]]):=by
 refine zA (fn:=Tryz.f60) 6 [4] (by kernel_rfl) rfl (by kernel_rfl) (HW.run 400 (by kernel_rfl) ?_)
 simp +decide only[go_sem,nT,nA,nS,nM,nB,reduceIte,reduceCtorEq]
def z4h (p:Prg) (l:List Pck) (m id:Nat) (J:Nat→Heap→Prop) (k:Nat) (T:Nat→HV) (H:Heap):Prop:=∃i Hq pre s,k=l.length-i∧i≤l.length∧J i Hq∧Hq.length=m∧
 zA1 p (zG p) l=pre++zA1 p s (l.drop i)∧pre.length=i∧RightS p s∧Few s i∧
 T 0=.yl id∧T 1=.pt m 1 0 0∧T 2=.pt (m+1) 1 0 0∧T 4=.pt (m+2) 1 0 0∧T 12=.sl (pcks l)∧T 13=.v (.int .i64 l.length)∧T 14=.v (.int .i64 i)∧
 H=Hq++[some ⟨25,2,[[.sl (ints p.init),.sl (thrs p.thr)]]⟩,some ⟨32,1,[[.sl (pcks l)]]⟩,some ⟨79,2,[[.sl (ints s.mem),.sl (thds s.ths)]]⟩]
set_option maxHeartbeats 8000000 in
theorem zY7 (p:Prg) (l:List Pck) (hp:RightP p) (hl:l.length≤10000) (Hc:Heap) (n n' : Nat) (hne:n≠n') (hn:Hc[n]?=some (some ⟨25,2,[[.sl (ints p.init),.sl (thrs p.thr)]]⟩)) (hn' : Hc[n']?=some (some ⟨32,1,[[.sl (pcks l)]]⟩)) :
  HSeq Tryz.prog 92 Hc [.pt n 1 0 0,.pt n' 1 0 0] ((Hc.set n none).set n' none) (zA1 p (zG p) l):=by
 intro id J K hid hJ hK hY h0
 have hsm:=hp.small
 have hlt' : n' < Hc.length:=(List.getElem?_eq_some_iff.1 hn').1
 refine zA (fn:=Tryz.f92) 50 [] rfl rfl (by kernel_rfl) (HW.ghost ((Ghost.move 1 n 1 0 0 _ rfl hn).trans (Ghost.move 2 n' 1 0 0 ⟨32,1,[[.sl (pcks l)]]⟩ rfl (by
  rw[List.getElem?_append_left (by rw[List.length_set];exact hlt'),List.getElem?_set_ne hne];exact hn'))) (HW.run 60 (by kernel_rfl) ?_))
 have hset:∀B:Heap,(Hc.set n none++B).set n' none=(Hc.set n none).set n' none++B:=fun B=>by
  rw[List.set_append_left _ _ (by rw[List.length_set];exact hlt')]
 rw[hset]
 have hl0:((Hc.set n none).set n' none).length=Hc.length:=by simp
 generalize (Hc.set n none).set n' none=A at h0 hl0⊢
 have hlA:(Hc.set n none++[some (⟨25,2,[[.sl (ints p.init),.sl (thrs p.thr)]]⟩:HObj)]).length=Hc.length+1:=by simp
 have g0:∀B:Heap,getO (A++B) Hc.length=getO B 0:=fun B=>zA0 hl0
 have g1:∀(j:Nat) (B:Heap),getO (A++B) (Hc.length+j)=getO B j:=fun j B=>zBQ hl0
 have g2:∀(j:Nat) (B:Heap) x,(A++B).set (Hc.length+j) x=A++B.set j x:=fun j B x=>zCN hl0
 simp +decide only[go_sem,nT,nA,nS,nM,nB,reduceIte,reduceCtorEq,g0,g1,g2,hl0,List.append_assoc,hlA,List.length_set,List.length_append]
 refine zC (zR3 p (by have:=hsm.thr;omega) (by have:=hp.init;omega)) rfl rfl ?_
 simp +decide only[go_sem,nT,nA,nS,nM,nB,reduceIte,reduceCtorEq,g0,g1,g2,hl0,List.append_assoc,hlA,List.length_set,List.length_append]
 refine HW.loopG (z4h p l Hc.length id J) l.length ⟨_,_,Ghost.refl,0,A,[],zG p,rfl,by omega,h0,hl0,rfl,rfl,zAk,?_,?_,?_,?_,?_,?_,?_,?_,rfl⟩ ?_
 ·intro t ht
  simp only[zG,List.mem_map] at ht
  obtain ⟨_,_,rfl⟩:=ht
  simp
 iterate 6 simp +decide only[go_sem,nB,reduceIte,hl0]
 ·simp +decide only[go_sem,nB,reduceIte];rfl
 rintro k T H ⟨i,Hq,pre,s,rfl,hi,hJi,hlen,hX,hpre,hs,hf,h0,h1,h2,h4,h12,h13,h14,rfl⟩
 refine HW.run 200 (by kernel_rfl) ?_
 have g0:∀B:Heap,getO (Hq++B) Hc.length=getO B 0:=fun B=>zA0 hlen
 have g1:∀(j:Nat) (B:Heap),getO (Hq++B) (Hc.length+j)=getO B j:=fun j B=>zBQ hlen
 have g2:∀(j:Nat) (B:Heap) x,(Hq++B).set (Hc.length+j) x=Hq++B.set j x:=fun j B x=>zCN hlen
 by_cases hlt:i<l.length
 ·have hlt' : ((i:Int)<(l.length:Int))=True:=by rw[zO];simp[hlt]
  have hx:l[i]?=some l[i]:=List.getElem?_eq_getElem hlt
  have hd:l.drop i=l[i]::l.drop (i+1):=List.drop_eq_getElem_cons hlt
  generalize l[i]=q at hx hd
  simp +decide only[go_sem,nT,nA,nS,nM,nB,reduceIte,reduceCtorEq,h0,h1,h2,h4,h12,h13,h14,g0,g1,g2,hlen,hlt',hx,List.append_assoc,List.length_append]
  refine zC (zVA p s q hp hs (fun t ht=>by have:=hf t ht;omega)) rfl rfl ?_
  rw[hd,zBv] at hX
  cases hw:(zAG p s q).2 with
  | false =>
   rw[hw,if_neg (by simp)] at hX
   have hXi:(zA1 p (zG p) l)[i]?=some [badH]:=by rw[hX,List.getElem?_append_right (by omega),hpre,Nat.sub_self];rfl
   have hXl:(zA1 p (zG p) l).length=i+1:=by rw[hX,List.length_append,hpre];rfl
   simp +decide only[go_sem,nT,nA,nS,nM,nB,reduceIte,reduceCtorEq,h0,h1,h2,h4,h12,h13,h14,g0,g1,g2,hlen,hw,List.append_assoc,List.length_append]
   refine zCi hlen hid (hJ _ _ hJi).2 rfl (hY _ _ Hq hXi hJi) ?_
   intro c Hq' hc' hlen'
   simp +decide only[go_sem,nT,nA,nS,nM,nB,reduceIte,reduceCtorEq]
   refine zAa hlen' ?_ ?_
   ·cases c with
    | true=>exact (hJ _ _ hc').2
    | false=>exact hK _ _ hc'
   ·cases c with
    | true=>rw[hXl];exact .inl hc'
    | false=>exact .inr ⟨_,hc'⟩
  | true =>
   rw[hw,if_pos rfl] at hX
   obtain ⟨c1,c2⟩:=zIM hw
   have hXi:(zA1 p (zG p) l)[i]?=some [zF3 q (thAt s q.th)]:=by rw[hX,List.getElem?_append_right (by omega),hpre,Nat.sub_self];rfl
   have hT:s.ths[q.th.toNat]?=some (thAt s q.th):=zIL ⟨c1,c2⟩
   have c1' : (0≤q.th)=True:=by simp[c1]
   have c2' : (q.th<(s.ths.length:Int))=True:=by simp[c2]
   generalize thAt s q.th=y at hXi hT hX
   simp +decide only[go_sem,nT,nA,nS,nM,nB,reduceIte,reduceCtorEq,h0,h1,h2,h4,h12,h13,h14,g0,g1,g2,hlen,hw,List.append_assoc,List.length_append,hT,c1',c2']
   refine zCi hlen hid (hJ _ _ hJi).2 rfl (hY _ _ Hq hXi hJi) ?_
   intro c Hq' hc' hlen'
   have g0:∀B:Heap,getO (Hq'++B) Hc.length=getO B 0:=fun B=>zA0 hlen'
   have g1:∀(j:Nat) (B:Heap),getO (Hq'++B) (Hc.length+j)=getO B j:=fun j B=>zBQ hlen'
   have g2:∀(j:Nat) (B:Heap) x,(Hq'++B).set (Hc.length+j) x=Hq'++B.set j x:=fun j B x=>zCN hlen'
   cases c with
   | true =>
    simp only[if_true] at hc'
    simp +decide only[go_sem,nT,nA,nS,nM,nB,reduceIte,reduceCtorEq,h0,h1,h2,h4,h12,h13,h14,g0,g1,g2,hlen',List.append_assoc,List.length_append]
    have t1:∀B:Heap,(Hq'++B).take (Hc.length+3)=Hq'++B.take 3:=fun B=>zCj hlen'
    refine ⟨_,_,Ghost.trunc [0,1,2,4,12,13,14] (Hc.length+3) (by omega) ?_ (zEk hlen' (hJ _ _ hc').2 ?_),l.length-(i+1),by omega,i+1,Hq',pre++[[zF3 q y]],(zAG p s q).1,rfl,by omega,hc',hlen',?_,?_,zCY hp hs,zDr hf,?_,?_,?_,?_,?_,?_,?_,?_⟩
    ·simp +decide only[go_sem,nB,reduceIte,h0,h1,h2,h4,h12,h13,List.all_cons,List.all_nil]
     simp[nm];omega
    ·simp +decide only[go_sem,nB,reduceIte,List.set_cons_succ,List.set_cons_zero,List.take_succ_cons,List.take_zero,List.all_cons,List.all_nil]
    ·rw[hX,List.append_assoc];rfl
    ·simp[hpre]
    iterate 6 simp +decide only[go_sem,nB,reduceIte,h0,h1,h2,h4,h12,h13]
    ·simp +decide only[go_sem,nB,reduceIte];rw[w64 (by omega) (by omega)];rfl
    ·rw[t1];rfl
   | false =>
    simp only[Bool.false_eq_true,if_false] at hc'
    simp +decide only[go_sem,nT,nA,nS,nM,nB,reduceIte,reduceCtorEq,h0,h1,h2,h4,h12,h13,h14,g0,g1,g2,hlen']
    exact zAa hlen' (hK _ _ hc') (.inr ⟨_,hc'⟩)
 ·have hlt' : ((i:Int)<(l.length:Int))=False:=by rw[zO];simp[hlt]
  have e:i=(zA1 p (zG p) l).length:=by
   rw[hX,List.drop_eq_nil_of_le (by omega),List.length_append,hpre];rfl
  simp +decide only[go_sem,nT,nA,nS,nM,nB,reduceIte,reduceCtorEq,h0,h1,h2,h4,h12,h13,h14,g0,hlt']
  exact zAa hlen (hJ _ _ hJi).2 (.inl (e▸hJi))
end Go.Proofs.YtoknohandclcbaaGreat
