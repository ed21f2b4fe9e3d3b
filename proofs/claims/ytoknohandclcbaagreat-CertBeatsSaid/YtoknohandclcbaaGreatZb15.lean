/- Parts of the proof: Cu, Gu, Gv, Gw, Gk, Gd, Gl, HiDl, Gx, Sp, Sq, Dc. -/
import Derived.Test.YtoknohandclcbaaGreatZb14
import Derived.Sort.OwnSortedInts
import Derived.Test.YtoknohandclcbaaGreatZb13
import Derived.Test.YtoknohandclcbaaGreatZb12
open Nat renaming reduceAdd → nA, reduceSub → nS, reduceMul → nM, reduceBEq → nB
open Int renaming reduceToNat → nT
set_option linter.unusedSectionVars false
set_option linter.unusedVariables false
set_option linter.unusedSimpArgs false
namespace Go.Proofs.YtoknohandclcbaaGreat
open Go.RowKit
open Go.WideElems (Fit rd rg rd_mk rg_of)
set_option maxRecDepth 8000
theorem Ghost.hole {N L:Nat} {T:Nat→HV} {H:Heap} (e:TypeId) (sz:Nat):Ghost N L T H T (H++[some ⟨e,sz,[]⟩]):=fun B Z G FP ds a w hL hs=>by
 have hinv:=hs.inv.new (w':=w) (o:=⟨e,sz,[]⟩) (g:=⟨none,e,sz,0,0⟩) (fp:=[]) (Nat.le_refl _) (fun _ _=>rfl) ⟨rfl,rfl,rfl,by simp,.inl ⟨rfl,rfl,rfl⟩⟩ (by simp) (by simp)
 have hE:Evo Z FP w Z (fun j=>if j=H.length then [] else FP j) w:=zGk (hs.inv.nofp _ (by simp)) rfl rfl rfl (Nat.le_refl _) (fun _ _=>rfl) (by simp)
 exact ⟨Z,_,_,hs.evo hinv (GLe.more _) hE,GLt.of hL (GLe.more _),hE⟩
abbrev zK2 (id:Nat):HObj:=⟨93,1,[[.mp id]]⟩
theorem zWy {H:Heap} {id j:Nat} {kv:List (Int×Int)} (hid:H[id]?=some (some (mapI kv))) (hj:H[j]?=some (some ⟨93,1,[]⟩)) :
  HCalls Tryz.prog 140 H [.mp id] (fun r H'=>r=.fn 168 [.pt j 1 0 0]∧H'=H.set j (some (zK2 id))):=by
 refine ⟨fun vals w=>enters_of (P:=Tryz.prog) Tryz.func140 (by kernel_rfl) rfl vals w,fun Z G FP w vals hi ha=>?_⟩
 simp only[RL] at ha
 obtain ⟨y,ys,f1,f2,rfl,e1,hv,rfl,rfl⟩:=ha
 obtain ⟨rfl,-⟩:f1=[]∧True:=by simpa using e1
 obtain ⟨r,rfl,hg,hfp,hb⟩:=zHn hi hid hv
 have hne:id≠j:=fun e=>by rw[e,hj] at hid;simp[mapI,mapG,zAn] at hid
 obtain ⟨gj,hgj,hobj⟩:=hi.live j _ hj
 have hn0:gj.n=0:=hobj.n
 have cK:Calls Tryz.prog 140 #[.map (some r)] w fun e w'=>e=.returned (.func (.func 168) #[] #[.pointer (some ⟨w.heap.size,0,none⟩)])∧w'=w.alloc (.cells #[.map (some r)] 93) :=
  callsIn_wide.1 (AnyZI.keys_in z2z Fence.wide 5 trivial rfl (some r) w)
 refine Calls.mono cK ?_
 rintro e w' ⟨rfl,rfl⟩
 have hnew:=heap_alloc_new w (.cells #[.map (some r)] 93)
 have hold:∀b,b<w.heap.size→(w.alloc (.cells #[.map (some r)] 93)).heap[b]?=w.heap[b]?:=fun b hb=>Below.heap_alloc w _ b hb
 have hlt:j<G.length:=hi.lt hj
 have hset:∀k,k≠j→(G.set j (some (some ⟨some w.heap.size,93,1,1,1⟩:Option OG)).join)[k]?=G[k]?:=fun k hk=>by simp[List.getElem?_set,Ne.symm hk]
 have hmp:RV Z (G.set j (some ⟨some w.heap.size,93,1,1,1⟩)) (w.alloc (.cells #[.map (some r)] 93)) (.mp id) (.map (some r)) []:=by
  simp only[RV]
  refine ⟨trivial,rfl,by rw[List.length_set];exact hi.lt hid,fun g hg'=>?_⟩
  rw[List.getElem?_set_ne (Ne.symm hne),hg] at hg'
  cases hg'
  exact ⟨Nat.le_refl _,fun _ _=>rfl⟩
 have hinv:=hi.turn (w':=w.alloc (.cells #[.map (some r)] 93)) (o':=zK2 id) (g':=⟨some w.heap.size,93,1,1,1⟩) (fp':=[w.heap.size]) hj hgj (.inr (by rw[hn0];exact Nat.one_pos)) (by simp) (fun b hb _=>hold b hb)
  ⟨rfl,rfl,rfl,by simp,.inr (.inl ⟨w.heap.size,#[.map (some r)],[],rfl,rfl,hnew,by simp,by simp,by simp[maxLen],by
   simp only[RR,RC]
   refine ⟨[],[],rfl,⟨_,[],[],rfl,?_,rfl,hmp,rfl⟩,rfl⟩
   unfold World.cell?;rw[hnew];rfl⟩)⟩ (by simp) (fun b hb=>by
    obtain rfl:=List.mem_singleton.1 hb
    refine ⟨fun hz=>?_,by simp,fun k _ hc=>?_⟩
    ·have:=hi.zlt _ hz;omega
    ·have:=hi.flt k _ hc;omega)
 refine ⟨_,_,_,_,_,_,[],rfl,⟨rfl,rfl⟩,by simp,hinv,?_,by simp,by simp,by simp,GLe.set hgj (.inr (by rw[hn0];exact Nat.one_pos)),zCC rfl rfl rfl (by simp) (fun b hb _=>hold b hb) (fun b hb=>by
  obtain rfl:=List.mem_singleton.1 hb
  exact .inl (Nat.le_refl _))⟩
 simp only[RV]
 refine ⟨#[.pointer (some ⟨w.heap.size,0,none⟩)],(zKn (by decide) _).symm,?_⟩
 simp only[RL,RV]
 refine ⟨_,_,[],[],rfl,rfl,⟨rfl,rfl,by rw[List.length_set];exact hlt,fun g hg'=>?_⟩,rfl,rfl⟩
 rw[List.getElem?_set_self hlt] at hg'
 cases hg'
 exact ⟨Nat.le_refl _,fun _=>⟨_,rfl,by simp⟩⟩
theorem zLg {Z:Nat→Prop} {w:World} {b:Nat}:∀(xs:List Int) (k:Nat),(∀(i:Nat) x,xs[i]?=some x→w.cell? ⟨b,k+i,none⟩=some (.int .i64 x))→RR Z [] w (ints xs) b k []
 | [],k,_=>by simp[ints,RR]
 | x::xs,k,h=>by
  show RR Z [] w ([.v (.int .i64 x)]::ints xs) b k []
  simp only[RR,RC,RV]
  refine ⟨[],[],rfl,⟨_,[],[],rfl,by have:=h 0 x rfl;simpa using this,rfl,⟨rfl,rfl⟩,rfl⟩,?_⟩
  refine zLg xs (k+1) fun i y hy=>?_
  rw[show k+1+i=k+(i+1) by omega]
  exact h (i+1) y (by simpa using hy)
def zLu:Value→Option (DataW Unit×List MemPlace):=fun _=>some (.nil,[])
theorem zNL {kv:List (Int×Int)} {x:MapEntry}:∀{n:Nat},x∈esL kI n kv→∃e∈kv,x.key=.int .i64 e.1∧n≤x.born∧x.born<n+kv.length:=by
 induction kv with
 | nil=>intro n h;simp[esL] at h
 | cons e r ih =>
  intro n h
  simp only[esL,List.mem_cons] at h
  rcases h with rfl | h
  ·exact ⟨e,by simp,rfl,Nat.le_refl _,by simp⟩
  ·obtain ⟨e',h1,h2,h3,h4⟩:=ih h
   exact ⟨e',by simp[h1],h2,by omega,by simp only[List.length_cons];omega⟩
theorem zNK {kv:List (Int×Int)} (hnd:(kv.map (·.1)).Nodup):∀n,((esL kI n kv).map (·.born)).Nodup∧(esL kI n kv).Pairwise (fun x y=>x.key≠y.key):=by
 induction kv with
 | nil=>intro n;simp[esL]
 | cons e r ih =>
  intro n
  simp only[List.map_cons,List.nodup_cons] at hnd
  obtain ⟨h1,h2⟩:=ih hnd.2 (n+1)
  simp only[esL,List.map_cons,List.nodup_cons,List.pairwise_cons]
  refine ⟨⟨fun hm=>?_,h1⟩,fun y hy hk=>?_,h2⟩
  ·obtain ⟨y,hy,he⟩:=List.mem_map.1 hm
   obtain ⟨_,_,_,h3,_⟩:=zNL hy
   omega
  ·obtain ⟨e',h3,h4,_,_⟩:=zNL hy
   rw[h4] at hk
   simp at hk
   exact hnd.1 (hk▸List.mem_map.2 ⟨e',h3,rfl⟩)
theorem zTF {kv:List (Int×Int)} (hr:∀e∈kv,-1000000≤e.1∧e.1≤1000000):∀n,(esL kI n kv).map (rg (H:=Unit) Tryz.prog 3 zLu)=kv.map (fun e=>(Lit.int .i64 e.1,DataW.nil))∧∀x∈esL kI n kv,∃y,rd (H:=Unit) Tryz.prog 3 zLu x=some y:=by
 induction kv with
 | nil=>intro n;simp[esL]
 | cons e r ih =>
  intro n
  obtain ⟨h1,h2⟩:=ih (fun e' h=>hr e' (by simp[h])) (n+1)
  have hw:(Lit.int .i64 e.1).wf=true:=by
   have:=hr e (by simp)
   have h1:IntKind.i64.min = -9223372036854775808:=by decide
   have h2:IntKind.i64.max=9223372036854775807:=by decide
   simp only[Lit.wf,h1,h2,Bool.and_eq_true,decide_eq_true_eq]
   omega
  have hk:keyOf Tryz.prog 3 (.int .i64 e.1)=some (.int .i64 e.1):=Go.Maps.keyOf_int_mk Tryz.underlying3 hw
  have hd:rd (H:=Unit) Tryz.prog 3 zLu ⟨.int .i64 e.1,.int .i64 e.2,n⟩=some (.int .i64 e.1,.nil):=rd_mk (yv:=(.nil,[])) hk rfl
  refine ⟨?_,fun x hx=>?_⟩
  ·simp only[esL,List.map_cons,h1]
   rw[rg_of hd]
  ·simp only[esL,List.mem_cons] at hx
   rcases hx with rfl | hx
   ·exact ⟨_,hd⟩
   ·exact h2 x hx
theorem z2c (m:Nat):AnyZI.SortsIn Tryz.prog zFt Fence.wide m :=
  ⟨fun blk off cap ss W hH hblk hsz=>callsIn_wide.2 (AnyM.slices_Sort_int zVv blk off cap ss W hH hblk hsz),
   fun p cap W=>callsIn_wide.2 (AnyM.slices_Sort_int_none zVv p cap W)⟩
def zEi (kv:List (Int×Int)):List Int:=(kv.map (·.1)).mergeSort fun x y=>decide (x≤y)
set_option maxHeartbeats 1000000 in
theorem zJv {H:Heap} {id j:Nat} {kv:List (Int×Int)} (hid:H[id]?=some (some (mapI kv))) (hj:H[j]?=some (some (zK2 id))) (hnd:(kv.map (·.1)).Nodup) (hr:∀e∈kv,-1000000≤e.1∧e.1≤1000000) (hlen:kv.length≤1000000) :
  HCalls Tryz.prog 139 H [.fn 168 [.pt j 1 0 0]] (fun r H'=>r=zBn (zEi kv)∧H'=H):=by
 refine ⟨fun vals w=>enters_of (P:=Tryz.prog) Tryz.func139 (by kernel_rfl) rfl vals w,fun Z G FP w vals hi ha=>?_⟩
 simp only[RL] at ha
 obtain ⟨y,ys,f1,f2,rfl,e1,hv,rfl,rfl⟩:=ha
 obtain ⟨rfl,-⟩:f1=[]∧True:=by simpa using e1
 rw[RV] at hv
 obtain ⟨zs,rfl,hv⟩:=hv
 rw[zKn (by decide)]
 obtain ⟨zs⟩:=zs
 simp only[RL] at hv
 obtain ⟨q,ys,f1,f2,rfl,e2,hq,rfl,rfl⟩:=hv
 obtain ⟨rfl,-⟩:f1=[]∧True:=by simpa using e2
 obtain ⟨g,b,cells,f,hg,hob,hgb,hfp,hb,hcs,hc1,hc2,hrr,rfl,_⟩:=zPd hi hj rfl rfl hq
 simp only[RR,RC] at hrr
 obtain ⟨_,_,_,⟨mv,_,_,_,hcell,_,hmv,_⟩,_⟩:=hrr
 have hmv' : RV Z G w (.mp id) mv []:=by
  simp only[RV] at hmv⊢
  exact ⟨trivial,hmv.2⟩
 obtain ⟨r,rfl,_,_,hrb⟩:=zHn hi hid hmv'
 have hbl:b<w.heap.size:=(Array.getElem?_eq_some_iff.1 hb).1
 obtain ⟨h1,h2⟩:=zTF hr 0
 have htl:(esG kI kv).toList=esL kI 0 kv:=by unfold esG;rw[List.toList_toArray]
 let D0:DataW Unit:=.map (((esG kI kv).toList.map (rg Tryz.prog 3 zLu)).foldr DataW.insert [])
 have hsz:Go.Maps.size D0=kv.length:=by
  show (((esG kI kv).toList.map (rg Tryz.prog 3 zLu)).foldr DataW.insert []).length=_
  rw[length_sorted,List.length_map,htl,zDR]
 have hown:w.ownsMap Tryz.prog 3 zLu r kv.length D0:=by
  refine ⟨esG kI kv,kv.length,hrb,⟨?_,?_,fun x hx=>h2 x (htl▸hx)⟩,?_,rfl⟩
  ·rw[←Array.length_toList,htl,zDR];unfold maxLen;omega
  ·rw[Go.MapKept.stamped_iff,htl]
   obtain ⟨k1,k2⟩:=zNK hnd 0
   exact ⟨fun x hx=>by obtain ⟨_,_,_,_,k⟩:=zNL hx;omega,k1,k2⟩
  ·rw[←Array.length_toList,htl,zDR];exact Nat.le_refl _
 have hperm:(intKeys D0).Perm (kv.map (·.1)):=by
  show ((((esG kI kv).toList.map (rg Tryz.prog 3 zLu)).foldr DataW.insert []).map fun p=>Go.intOf p.1).Perm _
  refine ((Go.WideShapes.sorted_perm _).map _).trans ?_
  rw[htl,h1,List.map_map]
  exact List.Perm.refl _
 have hcb:w.cell? ⟨b,0,none⟩=some (.map (some r)):=by simpa using hcell
 have hseq:Go.SeqGives Fence.wide 2 Tryz.prog 168 #[.pointer (some ⟨b,0,none⟩)] encZ (fun ss=>ss.Perm (intKeys D0)) (Go.Maps.size D0) w :=
  AnyZI.keys_gives (ρ:=zK7) { z2z with } Fence.wide 2 trivial rfl (by omega) b r kv.length D0 w hbl hcb hown
 have cS:=AnyZI.sorted_in zZQ Fence.wide 5 trivial trivial trivial trivial rfl (by omega) (z2c _) (enters_of Tryz.func112 (by kernel_rfl) rfl) 168 #[.pointer (some ⟨b,0,none⟩)] trivial (enters_of Tryz.func168 (by kernel_rfl) rfl) _ _ (by rw[hsz];unfold maxLen;omega) (by rw[hsz];omega) w hseq
 have cS' : Calls Tryz.prog 139 #[.func (.func 168) #[] #[.pointer (some ⟨b,0,none⟩)]] w _:=callsIn_wide.1 cS
 have hy:(Value.pointer (some ⟨b,0*(zK2 id).sz+0,none⟩))=.pointer (some ⟨b,0,none⟩):=by simp
 rw[hy]
 refine Calls.mono cS' ?_
 rintro e w' ⟨v,ss,rfl,hS,hrow,hnil,hbw⟩
 have hsort:(ss.mergeSort fun x y=>decide (x≤y))=zEi kv:=mergeSort_of_perm_i (hS.trans hperm)
 rw[hsort] at hrow
 have hlen2:(zEi kv).length=ss.length:=by rw[←hsort,List.length_mergeSort]
 have hold:∀k,k<w.heap.size→w'.heap[k]?=w.heap[k]?:=hbw.block
 have hi' : HInv Z G FP H w':=hi.keep hbw.size fun k hk=>hold k (by
  rcases hk with hk | ⟨i,hk⟩
  ·exact hi.zlt k hk
  ·exact hi.flt i k hk)
 have hEv:Evo Z FP w Z FP w':=⟨hbw.os,hbw.tape,hbw.output,hbw.size,fun k hk _=>hold k hk,fun _ h=>h,fun _ h=>.inl h,fun i k hk=>.inr ⟨i,hk⟩⟩
 rcases hrow.2 with ⟨rfl,h0⟩ | ⟨gb,cap,cur,rfl,hbase,hgb',r1,r2,r3,r4⟩
 ·refine ⟨_,_,H,Z,G,FP,[],rfl,⟨rfl,rfl⟩,rfl,hi',?_,by simp,by simp,by simp,GLe.refl _,hEv⟩
  have:zEi kv=[]:=List.eq_nil_of_length_eq_zero (by omega)
  rw[this]
  simp only[RV]
  exact .inl ⟨rfl,trivial,trivial⟩
 ·have hgl:gb<w'.heap.size:=(Array.getElem?_eq_some_iff.1 hgb').1
  refine ⟨_,_,H,Z,G,FP,[gb],rfl,⟨rfl,rfl⟩,rfl,hi',?_,by simp,fun k hk=>?_,fun k hk=>?_,GLe.refl _,hEv⟩
  ·simp only[RV]
   refine .inr ⟨gb,cap,cur,[],by rw[zAG,hlen2],rfl,hgb',r3,by rw[zAG];omega,r2,fun r hr=>?_,?_⟩
   ·obtain ⟨_,_,rfl⟩:=List.mem_map.1 hr;rfl
   ·refine zLg _ 0 fun i x hx=>?_
    have hil:i<ss.length:=by have:=(List.getElem?_eq_some_iff.1 hx).1;omega
    have:(cur.toList.take (ss.length*1))[i]?=some (.int .i64 x):=by rw[r4,List.getElem?_map,hx];rfl
    rw[List.getElem?_take_of_lt (by omega)] at this
    unfold World.cell?
    rw[hgb',Nat.zero_add]
    simpa using this
  ·obtain rfl:=List.mem_singleton.1 hk
   exact ⟨fun hz=>by have:=hi.zlt _ hz;omega,hgl,fun i hc=>by have:=hi.flt i _ hc;omega⟩
  ·obtain rfl:=List.mem_singleton.1 hk
   exact .inl hbase
end Go.Proofs.YtoknohandclcbaaGreat
namespace Go.Proofs.YtoknohandclcbaaGreat
open Go.RowKit
set_option maxRecDepth 8000
theorem zOi {Z:Nat→Prop} {G:List (Option OG)} {w:World}:∀(l:List Int) (ys:List Value),RL Z G w (ints l).flatten ys []→ys=l.map (Value.int .i64)
 | [],ys,h=>by
  have h:RL Z G w [] ys []:=h
  simp only[RL] at h
  rw[h.1];rfl
 | x::l,ys,h=>by
  have h:RL Z G w (.v (.int .i64 x)::(ints l).flatten) ys []:=h
  simp only[RL,RV] at h
  obtain ⟨y,ys',f1,f2,rfl,e,⟨rfl,rfl⟩,h⟩:=h
  have e2:f2=[]:=by simpa using e
  subst e2
  rw[zOi l ys' h];rfl
def zCG (l:List Int):List Int:=l.mergeSort fun x y=>decide (x≤y)
theorem zBB {l:List Int}:(zCG l).length=l.length:=List.length_mergeSort _
theorem zOf {Z:Nat→Prop} {G:List (Option OG)} {w:World} {b:Nat}:∀(xs:List Int) (k:Nat),(∀(i:Nat) x,xs[i]?=some x→w.cell? ⟨b,k+i,none⟩=some (.int .i64 x))→RR Z G w (ints xs) b k []
 | [],k,_=>by simp[ints,RR]
 | x::xs,k,h=>by
  show RR Z G w ([.v (.int .i64 x)]::ints xs) b k []
  simp only[RR,RC,RV]
  refine ⟨[],[],rfl,⟨_,[],[],rfl,by have:=h 0 x rfl;simpa using this,rfl,⟨rfl,rfl⟩,rfl⟩,?_⟩
  refine zOf xs (k+1) fun i y hy=>?_
  rw[show k+1+i=k+(i+1) by omega]
  exact h (i+1) y (by simpa using hy)
set_option maxHeartbeats 1000000 in
theorem zPK {H:Heap} {id:Nat} {l:List Int} (hid:H[id]?=some (some ⟨3,1,ints l⟩)) (hlen:l.length≤1000000) :
  HCalls Tryz.prog 112 H [.hd id 0 l.length] (fun r H'=>r=.tu []∧H'=H.set id (some ⟨3,1,ints (zCG l)⟩)):=by
 refine ⟨fun vals w=>enters_of (P:=Tryz.prog) Tryz.func112 (by kernel_rfl) rfl vals w,fun Z G FP w vals hi ha=>?_⟩
 simp only[RL] at ha
 obtain ⟨y,ys,f1,f2,rfl,e1,hv,rfl,rfl⟩:=ha
 obtain ⟨rfl,-⟩:f1=[]∧True:=by simpa using e1
 obtain ⟨g,hg,hOB,hview⟩:=zEW hi hid (by simp[zAG]) hv
 have hn:g.n=l.length:=by rw[hOB.n];exact zAG
 unfold View at hview
 split at hview
 ·rename_i hb0
  obtain ⟨rfl,_,h0⟩:=hview
  have hl:l=[]:=List.eq_nil_of_length_eq_zero h0
  subst hl
  have cS:Calls Tryz.prog 112 #[.slice none 0 0] w _:=AnyM.slices_Sort_int_none zVv none 0 w
  refine Calls.mono cS ?_
  rintro e w' ⟨rfl,rfl⟩
  have hs:H.set id (some ⟨3,1,ints (zCG [])⟩)=H:=by
   rw[show zCG []=[] by simp[zCG]];exact zAP hid
  exact ⟨_,.tu [],H,Z,G,FP,[],rfl,⟨rfl,hs.symm⟩,rfl,hi,by simp[RV,RL],by simp,by simp,by simp,GLe.refl _,Evo.refl _ _ _⟩
 ·rename_i b hb
  obtain ⟨ad,rfl,hA⟩:=hview
  obtain rfl:=hA (.inr rfl)
  obtain ⟨b',cells,f,e1,e2,e3,e4,e5,e6,e7⟩:=hOB.cells_ hb
  rw[hb] at e1;cases e1
  simp only[Nat.zero_mul,Nat.sub_zero]
  have holen:(ints l).flatten.length=l.length:=by rw[zAt _ hOB.len,zAG,Nat.mul_one]
  obtain ⟨k1,k2,k3⟩:=(zCZ e3 (ints l) 0 f (Nat.zero_le _)).1 e7
  obtain rfl:f=[]:=zD9 _ _ _ zON k2
  rw[holen,List.drop_zero] at k2
  have hcur:=zOi l _ k2
  rw[holen] at k1
  have hbs:b<w.heap.size:=(Array.getElem?_eq_some_iff.1 e3).1
  have cS:Calls Tryz.prog 112 #[.slice (some ⟨b,0,none⟩) l.length g.cap] w _:=AnyM.slices_Sort_int zVv b 0 g.cap l w (holds_of_blockI e3 hcur) hbs (by omega)
  refine Calls.mono cS ?_
  rintro e w' ⟨rfl,n,os,rfl⟩
  have hh:=heap_sortedI (n:=n) (os:=os) (zCG l).toArray e3
  have hgb:=grownBy_sortedI (w:=w) (g:=b) (n:=n) (os:=os) (zCG l).toArray
  have htk:=take_putCellsI cells (zCG l) (by rw[zBB];omega)
  show Post Z G FP H w _ _ (Go.Sort.grow (Go.Sort.putRow (Value.int .i64) (Go.Sort.ahead w n) b 0 (zCG l).toArray) os)
  generalize Go.Sort.grow (Go.Sort.putRow (Value.int .i64) (Go.Sort.ahead w n) b 0 (zCG l).toArray) os=w' at hh hgb
  have hcl:(Go.Sort.putCells (Value.int .i64) 0 (zCG l).toArray cells).size=cells.size:=by simp[Go.Sort.putCells]
  generalize Go.Sort.putCells (Value.int .i64) 0 (zCG l).toArray cells=cells' at hh htk hcl
  have hbFP:b∈FP id:=by rw[e2];simp
  have hkeep:∀z,z<w.heap.size→z∉FP id→w'.heap[z]?=w.heap[z]?:=fun z hz hzf=>hgb.block z hz (fun e=>hzf (by cases e;exact hbFP))
  have hsame:G.set id (some g)=G:=zAP hg
  have hOB' : OB Z (G.set id (some g)) w' ⟨3,1,ints (zCG l)⟩ g [b]:=by
   rw[hsame]
   refine ⟨hOB.e,hOB.sz,by show g.n=(ints (zCG l)).length;rw[hn,zAG,zBB],fun r hr=>?_,.inr (.inl ⟨b,cells',[],hb,rfl,hh,by rw[hcl];exact e4,by rw[zAG,zBB];have:=e5;rwa [zAG] at this,e6,?_⟩)⟩
   ·obtain ⟨_,_,rfl⟩:=List.mem_map.1 hr;rfl
   ·refine zOf _ 0 fun i x hx=>?_
    have hil:i<(zCG l).length:=(List.getElem?_eq_some_iff.1 hx).1
    have:(cells'.toList.take (zCG l).length)[i]?=some (.int .i64 x):=by rw[htk,List.getElem?_map,hx];rfl
    rw[List.getElem?_take_of_lt hil] at this
    unfold World.cell?
    rw[hh,Nat.zero_add]
    simpa using this
  have hturn:=hi.turn hid hg (g':=g) (.inl rfl) hgb.size hkeep hOB' (by simp) (fun z hz=>by
   obtain rfl:=List.mem_singleton.1 hz
   exact ⟨hi.zfp id z hbFP,Nat.lt_of_lt_of_le (hi.flt id z hbFP) hgb.size,fun j hj hc=>hj (hi.disj j id z hc hbFP)⟩)
  refine ⟨_,.tu [],_,Z,_,_,[],rfl,⟨rfl,rfl⟩,by simp,hturn,by simp[RV,RL],by simp,by simp,by simp,GLe.set hg (.inl rfl),zCC hgb.os hgb.tape hgb.output hgb.size hkeep (fun z hz=>by
   obtain rfl:=List.mem_singleton.1 hz
   exact .inr ⟨_,hbFP⟩)⟩
theorem zPL (n:Nat) (hn:n≤100000000000):HFn Tryz.prog 141 [.v (.slice none 0 0),.v (.int .i64 n)] (zBn []):=by
 refine ⟨fun vals w=>enters_of (P:=Tryz.prog) Tryz.func141 (by kernel_rfl) rfl vals w,fun Z G FP w vals hi ha=>?_⟩
 simp only[RL,RV] at ha
 obtain ⟨y,ys,f1,f2,rfl,e1,⟨rfl,rfl⟩,y2,ys2,f3,f4,rfl,e2,⟨rfl,rfl⟩,rfl,rfl⟩:=ha
 by_cases h0:n=0
 ·subst h0
  have c:Calls Tryz.prog 141 #[.slice none 0 0,.int .i64 (0:Nat)] w _:=Any8.slices_Grow_room z3S none 0 0 0 w (by omega) (by omega) (by omega) (by omega)
  refine Calls.mono c ?_
  rintro e w' ⟨rfl,rfl⟩
  refine ⟨_,zBn [],[],Z,G,FP,[],rfl,rfl,rfl,hi,?_,by simp,by simp,by simp,GLe.refl _,Evo.refl _ _ _⟩
  simp[zBn,RV,ints]
 ·obtain ⟨td,inf,htd,hinf,hti⟩:=zAf ti3
  have hsz:inf.size=1:=by have:=TI.of_size td inf;rw[←hti] at this;exact this.symm
  have hby:inf.bytes=8:=by have:=TI.of_bytes td inf;rw[←hti] at this;exact this.symm
  have hze:inf.zero=some (.int .i64 0):=by have:=TI.of_zero td inf;rw[←hti] at this;exact this.symm
  have c:Calls Tryz.prog 141 #[.slice none 0 0,.int .i64 n] w _:=Any8.slices_Grow_grow z3S inf _ hinf hze (by omega) none 0 0 n [] w (by omega) (by omega) (by rw[hby];omega) (by omega) (by simp) (fun _=>rfl) (by simp)
  refine Calls.mono c ?_
  rintro e w' ⟨rfl,rfl⟩
  have hge:=grownCap_ge w (0+n) 0 (growL_ren.t 25)
  have hle:=grownCap_le_maxLen w (0+n) 0 (growL_ren.t 25) (by simp only[maxLen];omega)
  generalize grownCap w (0+n) 0 (growL_ren.t 25)=cap at hge hle
  have hcs:(([]:List Value).toArray++Builtin.zeroCells (Value.int .i64 0).cells (0+n-0)++Builtin.zeroCells (Value.int .i64 0).cells (cap-(0+n))).size=cap*1:=by
   have h1:(Value.int .i64 0).cells.size=1:=rfl
   simp only[Array.size_append,size_zeroCells,h1,List.size_toArray,List.length_nil]
   omega
  generalize ([]:List Value).toArray++Builtin.zeroCells (Value.int .i64 0).cells (0+n-0)++Builtin.zeroCells (Value.int .i64 0).cells (cap-(0+n))=cs at hcs
  have hold:∀k,k<w.heap.size→(w.drew.alloc (.cells cs (growL_ren.t 25))).heap[k]?=w.heap[k]?:=fun k hk=>Below.heap_alloc w.drew _ k hk
  have hnew:(w.drew.alloc (.cells cs (growL_ren.t 25))).heap[w.heap.size]?=some (.cells cs (growL_ren.t 25)):=heap_alloc_new w.drew _
  have hsize:(w.drew.alloc (.cells cs (growL_ren.t 25))).heap.size=w.heap.size+1:=by
   show (w.drew.heap.push _).size=_
   rw[Array.size_push];rfl
  have hi' : HInv Z G FP [] (w.drew.alloc (.cells cs (growL_ren.t 25))):=hi.keep (by omega) fun k hk=>hold k (by
   rcases hk with hk | ⟨i,hk⟩
   ·exact hi.zlt k hk
   ·exact hi.flt i k hk)
  refine ⟨_,zBn [],[],Z,G,FP,[w.heap.size],rfl,rfl,rfl,hi',?_,by simp,fun b hb=>?_,fun b hb=>?_,GLe.refl _,⟨rfl,rfl,rfl,by omega,fun k hk _=>hold k hk,fun _ h=>h,fun _ h=>.inl h,fun i k hk=>.inr ⟨i,hk⟩⟩⟩
  ·simp only[zBn,RV]
   exact .inr ⟨w.heap.size,cap,cs,[],rfl,rfl,hnew,hcs,by simp[ints],hle,by simp[ints],by simp[ints,RR]⟩
  ·obtain rfl:=List.mem_singleton.1 hb
   exact ⟨fun hz=>by have:=hi.zlt _ hz;omega,by omega,fun i hc=>by have:=hi.flt i _ hc;omega⟩
  ·obtain rfl:=List.mem_singleton.1 hb
   exact .inl (Nat.le_refl _)
set_option maxHeartbeats 4000000 in
theorem zJy (l:List (List Int)) (hl:l.length≤100000) (hr:∀r∈l,r.length≤100000):HFn Tryz.prog 111 [.sl (rws l)] (zBn l.flatten):=by
 have hsum:∀i,(l.take i).flatten.length≤100000*i:=by
  intro i
  induction i with
  | zero=>simp
  | succ i ih =>
   rw[List.take_add_one,List.flatten_append,List.length_append]
   cases hx:l[i]? with
   | none=>simp only[Option.toList_none,List.flatten_nil,List.length_nil];omega
   | some x=>have:=hr x (List.mem_of_getElem? hx);simp only[Option.toList_some,List.flatten_cons,List.flatten_nil,List.append_nil];omega
 refine zB (fn:=Tryz.f111) 36 [2] (by kernel_rfl) rfl (by kernel_rfl) (HW.run 400 (by kernel_rfl) ?_)
 simp +decide only[go_sem,nT,nA,nS,nM,nB,reduceIte,reduceCtorEq]
 refine HW.loopG (fun k T H=>∃i:Nat,k=l.length-i∧i≤l.length∧T 0=.sl (rws l)∧T 3=.v (.int .i64 (l.take i).flatten.length)∧T 9=.sl (rws l)∧T 10=.v (.int .i64 l.length)∧T 11=.v (.int .i64 i)∧H=[]) l.length ⟨_,_,Ghost.refl,0,rfl,by omega,rfl,rfl,rfl,rfl,rfl,rfl⟩ ?_
 rintro k T H ⟨i,rfl,hi,h0,h3,h9,h10,h11,rfl⟩
 refine HW.run 200 (by kernel_rfl) ?_
 by_cases hlt:i<l.length
 ·have hlt' : ((i:Int)<(l.length:Int))=True:=by rw[zR];simp[hlt]
  have hx:l[i]?=some l[i]:=List.getElem?_eq_getElem hlt
  have htk:(l.take (i+1)).flatten=(l.take i).flatten++l[i]:=by rw[List.take_add_one,hx,List.flatten_append];simp
  have hs:=hsum (i+1)
  generalize l[i]=x at hx htk
  rw[htk,List.length_append] at hs
  have w1:IntKind.i64.wrap (((l.take i).flatten.length:Int)+(x.length:Int))=(((l.take i).flatten.length+x.length:Nat):Int):=by rw[w64 (by omega) (by omega)];omega
  have w2:((((l.take i).flatten.length+x.length:Nat):Int)<0)=False:=by simp only[eq_iff_iff,iff_false];omega
  simp +decide only[go_sem,nT,nA,nS,nM,nB,reduceIte,reduceCtorEq,h0,h3,h9,h10,h11,hlt',hx,w1,w2]
  refine ⟨_,_,Ghost.refl,l.length-(i+1),by omega,i+1,rfl,by omega,?_,?_,?_,?_,?_,?_⟩
  all_goals first | (simp +decide only[go_sem,nB,reduceIte,h0,h9,h10];done) | (simp +decide only[go_sem,nB,reduceIte];rw[w64 (by omega) (by omega)];rfl) | (simp +decide only[go_sem,nB,reduceIte];rw[htk,List.length_append];done) | rfl
 ·have hlt' : ((i:Int)<(l.length:Int))=False:=by rw[zR];simp[hlt]
  have e:i=l.length:=by omega
  subst e
  rw[List.take_length] at h3
  have hs:=hsum l.length
  rw[List.take_length] at hs
  simp +decide only[go_sem,nT,nA,nS,nM,nB,reduceIte,reduceCtorEq,h0,h3,h9,h10,h11,hlt']
  refine zD (zPL l.flatten.length (by omega)) rfl rfl ?_
  simp +decide only[go_sem,nT,nA,nS,nM,nB,reduceIte,reduceCtorEq,h0,h3,h9,h10,h11,hlt']
  refine HW.loopG (fun k T H=>∃i:Nat,k=l.length-i∧i≤l.length∧T 6=.hd 0 0 (l.take i).flatten.length∧T 25=.sl (rws l)∧T 26=.v (.int .i64 l.length)∧T 27=.v (.int .i64 i)∧H=[some ⟨3,1,ints (l.take i).flatten⟩]) l.length ⟨_,_,Ghost.refl,0,rfl,by omega,?_,?_,?_,?_,?_⟩ ?_
  iterate 5 first | (simp +decide only[go_sem,nB,reduceIte,h0,h3,h9,h10,h11];done) | exact rfl
  rintro k T H ⟨i,rfl,hi,h6,h25,h26,h27,rfl⟩
  refine HW.run 200 (by kernel_rfl) ?_
  by_cases hlt:i<l.length
  ·have hlt' : ((i:Int)<(l.length:Int))=True:=by rw[zR];simp[hlt]
   have hx:l[i]?=some l[i]:=List.getElem?_eq_getElem hlt
   have htk:(l.take (i+1)).flatten=(l.take i).flatten++l[i]:=by rw[List.take_add_one,hx,List.flatten_append];simp
   have hs:=hsum (i+1)
   generalize l[i]=x at hx htk
   rw[htk,List.length_append] at hs
   simp +decide only[go_sem,nT,nA,nS,nM,nB,reduceIte,reduceCtorEq,h6,h25,h26,h27,hlt',hx]
   repeat (with_reducible refine And.intro ?_ ?_;·(with_reducible and_intros) <;> omega)
   refine ⟨_,_,Ghost.trunc [6,25,26,27] 1 (by omega) ?_ ?_,l.length-(i+1),by omega,i+1,rfl,by omega,?_,?_,?_,?_,?_⟩
   all_goals first | (simp +decide only[go_sem,nB,reduceIte,h6,h25,h26];done) | (simp +decide only[go_sem,nB,reduceIte];rw[w64 (by omega) (by omega)];rfl) | (simp +decide only[go_sem,nT,nA,nS,nM,nB,reduceIte,reduceCtorEq,htk,List.length_append];done)
  ·have hlt' : ((i:Int)<(l.length:Int))=False:=by rw[zR];simp[hlt]
   have e:l.take i=l:=List.take_of_length_le (by omega)
   simp +decide only[go_sem,nT,nA,nS,nM,nB,reduceIte,reduceCtorEq,h6,h25,h26,h27,hlt',e]
end Go.Proofs.YtoknohandclcbaaGreat
namespace Go.Proofs.YtoknohandclcbaaGreat
open Go.RowKit
set_option maxRecDepth 8000
def zGs (a:List Int) (x:Int):List Int:=if a.getLast?=some x then a else a++[x]
def zCe (l:List Int):List Int:=l.foldl zGs []
theorem zFL {l:List Int} {x:Int}:zCe (l++[x])=zGs (zCe l) x:=by simp[zCe]
theorem zQy {a:List Int} {x:Int}:(zGs a x).getLast?=some x:=by
 unfold zGs
 split
 ·assumption
 ·simp
theorem zQz:∀(l:List Int),(zCe l).getLast?=l.getLast?:=by
 intro l
 rcases List.eq_nil_or_concat l with rfl | ⟨a,x,rfl⟩
 ·rfl
 ·rw[List.concat_eq_append,zFL,zQy];simp
theorem zIG {l:List Int} {i:Nat} {x y:Int} (hx:l[i+1]?=some x) (hy:l[i]?=some y):zCe (l.take (i+2))=if y=x then zCe (l.take (i+1)) else zCe (l.take (i+1))++[x]:=by
 have h1:l.take (i+2)=l.take (i+1)++[x]:=by rw[List.take_add_one,hx];rfl
 have h2:(l.take (i+1)).getLast?=some y:=by rw[List.take_add_one,hy];simp
 rw[h1,zFL,zGs,zQz,h2]
 simp only[Option.some.injEq]
theorem zUl:∀(l:List Int),(zCe l).length≤l.length:=by
 intro l
 generalize h:l.length=n
 induction n generalizing l with
 | zero=>rw[List.eq_nil_of_length_eq_zero h];simp[zCe]
 | succ n ih =>
  rcases List.eq_nil_or_concat l with rfl | ⟨a,x,rfl⟩
  ·simp at h
  ·rw[List.concat_eq_append] at h⊢
   have h2:a.length=n:=by simp at h;exact h
   rw[zFL]
   have:=ih a h2
   unfold zGs
   split
   ·omega
   ·simp;omega
set_option maxHeartbeats 8000000 in
theorem zI0 (l:List Int) (hl:l.length≤100000000):HCalls Tryz.prog 113 [some ⟨3,1,ints l⟩] [.hd 0 0 l.length]
  (fun r H'=>(r=.hd 0 0 l.length∧H'=[some ⟨3,1,ints l⟩]∧zCe l=l)∨(r=zBn (zCe l)∧H'=[none])):=by
 refine zB (fn:=Tryz.f113) 61 [2] (by kernel_rfl) rfl (by kernel_rfl) (HW.run 400 (by kernel_rfl) ?_)
 by_cases hs:l.length<2
 ·have hs' : ((l.length:Int)<2)=True:=by simp only[eq_iff_iff,iff_true];omega
  have hc:zCe l=l:=by
   match l,hs with
   | [],_=>rfl
   | [x],_=>rfl
   | _::_::_,h=>simp at h;omega
  simp +decide only[go_sem,nT,nA,nS,nM,nB,reduceIte,reduceCtorEq,hs']
  exact ⟨by simp[nmH,zET],.inl ⟨rfl,rfl,hc⟩⟩
 have hs' : ((l.length:Int)<2)=False:=by simp only[eq_iff_iff,iff_false];omega
 simp +decide only[go_sem,nT,nA,nS,nM,nB,reduceIte,reduceCtorEq,hs']
 refine HW.loopG (fun q T H=>∃i:Nat,q=l.length-i∧i+1≤l.length∧zCe (l.take (i+1))=l.take (i+1)∧T 0=.hd 0 0 l.length∧T 3=.v (.int .i64 ((i+1:Nat):Int))∧H=[some ⟨3,1,ints l⟩]) l.length ⟨_,_,Ghost.refl,0,rfl,by omega,?_,rfl,rfl,rfl⟩ ?_
 ·cases l with
  | nil=>rfl
  | cons x l=>rfl
 rintro q T H ⟨i,rfl,hi,hc,h0,h3,rfl⟩
 refine HW.run 200 (by kernel_rfl) ?_
 by_cases hlt:i+1<l.length
 ·have hlt' : (((i+1:Nat):Int)<(l.length:Int))=True:=by simp only[eq_iff_iff,iff_true];omega
  have hlt2:((i:Int)<(l.length:Int))=True:=by simp only[eq_iff_iff,iff_true];omega
  have hx:l[i+1]?=some l[i+1]:=List.getElem?_eq_getElem hlt
  have hy:l[i]?=some (l[i]'(by omega)):=List.getElem?_eq_getElem (by omega)
  generalize l[i+1]=x at hx
  generalize l[i]'(by omega)=y at hy
  have hct:=zIG hx hy
  rw[hc] at hct
  have w1:IntKind.i64.wrap (((i+1:Nat):Int)-1)=(i:Int):=by rw[w64 (by omega) (by omega)];omega
  have w2:IntKind.i64.wrap (((i+1:Nat):Int)+1)=((i+1+1:Nat):Int):=by rw[w64 (by omega) (by omega)];omega
  simp +decide only[go_sem,nT,nA,nS,nM,nB,reduceIte,reduceCtorEq,h0,h3,hlt']
  refine HW.tree 1 (.light 0 (.light 1 (.light 2 (.light 3 (.light 4 (.light 5 (.light 6 (.light 7 (.light 8 (.light 9 .leaf)))))))))) follows (by kernel_rfl) (by kernel_rfl) ?_
  simp +decide only[go_sem,nT,nA,nS,nM,nB,reduceIte,reduceCtorEq,h0,h3,hlt',hlt2,w1,hx,hy]
  by_cases hxy:x=y
  ·rw[if_pos hxy.symm] at hct
   simp +decide only[go_sem,nT,nA,nS,nM,nB,reduceIte,reduceCtorEq,h0,h3,hxy]
   refine ⟨by omega,?_⟩
   refine HW.loopG (fun q T H=>∃(j kk:Nat) (m:List Int),q=l.length-j∧i+1+(j+1)≤l.length∧kk≤i+1+j∧m.length=l.length∧m.take kk=zCe (l.take (i+1+(j+1)))∧m.drop (i+1+j)=l.drop (i+1+j)∧T 0=.hd 0 0 l.length∧T 3=.v (.int .i64 (kk:Int))∧T 4=.hd 0 (i+1) (l.length-(i+1))∧T 5=.v (.int .i64 ((j+1:Nat):Int))∧H=[some ⟨3,1,ints m⟩]) l.length ⟨_,_,Ghost.refl,0,i+1,l,rfl,by omega,by omega,rfl,hct.symm,rfl,?_,?_,?_,?_,rfl⟩ ?_
   ·simp +decide only[go_sem,nB,reduceIte,h0,h3]
   ·simp +decide only[go_sem,nB,reduceIte,h0,h3]
   ·simp +decide only[go_sem,nT,nA,nS,nM,nB,reduceIte,reduceCtorEq,h0,h3]
   ·simp +decide only[go_sem,nB,reduceIte,h0,h3]
    rfl
   rintro q T H ⟨j,kk,m,rfl,hj,hk,hml,hmt,hmd,h0,h3,h4,h5,rfl⟩
   refine HW.run 200 (by kernel_rfl) ?_
   by_cases hlt3:i+1+(j+1)<l.length
   ·have hlt3' : (((j+1:Nat):Int)<((l.length-(i+1):Nat):Int))=True:=by simp only[eq_iff_iff,iff_true];omega
    have hlt4:((j:Int)<((l.length-(i+1):Nat):Int))=True:=by simp only[eq_iff_iff,iff_true];omega
    have gm:∀n,i+1+j≤n→m[n]?=l[n]?:=fun n hn=>by
     have e1:(m.drop (i+1+j))[n-(i+1+j)]?=(l.drop (i+1+j))[n-(i+1+j)]?:=by rw[hmd]
     rw[List.getElem?_drop,List.getElem?_drop,show i+1+j+(n-(i+1+j))=n by omega] at e1
     exact e1
    have hu:l[i+1+(j+1)]?=some l[i+1+(j+1)]:=List.getElem?_eq_getElem hlt3
    have hv:l[i+1+j]?=some (l[i+1+j]'(by omega)):=List.getElem?_eq_getElem (by omega)
    generalize l[i+1+(j+1)]=u at hu
    generalize l[i+1+j]'(by omega)=v at hv
    have hmu:m[i+1+(j+1)]?=some u:=by rw[gm _ (by omega),hu]
    have hmv:m[i+1+j]?=some v:=by rw[gm _ (by omega),hv]
    have hcu:=zIG (l:=l) (i:=i+1+j) hu hv
    have w3:IntKind.i64.wrap (((j+1:Nat):Int)-1)=(j:Int):=by rw[w64 (by omega) (by omega)];omega
    have w4:IntKind.i64.wrap (((j+1:Nat):Int)+1)=((j+1+1:Nat):Int):=by rw[w64 (by omega) (by omega)];omega
    have w5:IntKind.i64.wrap ((kk:Int)+1)=((kk+1:Nat):Int):=by rw[w64 (by omega) (by omega)];omega
    have hl1:i+1+(l.length-(i+1))=m.length:=by omega
    have hkl:((kk:Int)<(l.length:Int))=True:=by simp only[eq_iff_iff,iff_true];omega
    simp +decide only[go_sem,nT,nA,nS,nM,nB,reduceIte,reduceCtorEq,h0,h3,h4,h5,hlt3',hml]
    repeat (with_reducible refine And.intro ?_ ?_;·(with_reducible and_intros) <;> omega)
    refine HW.tree 1 (.light 0 (.light 1 (.light 2 (.light 3 (.light 4 (.light 5 (.light 6 (.light 7 (.light 8 (.light 9 .leaf)))))))))) follows (by kernel_rfl) (by kernel_rfl) ?_
    simp +decide only[go_sem,nT,nA,nS,nM,nB,reduceIte,reduceCtorEq,h0,h3,h4,h5,hlt3',hlt4,w3,hmu,hmv,hml]
    repeat (with_reducible refine And.intro ?_ ?_;·(with_reducible and_intros) <;> omega)
    by_cases huv:u=v
    ·rw[if_pos huv.symm] at hcu
     simp +decide only[go_sem,nT,nA,nS,nM,nB,reduceIte,reduceCtorEq,h0,h3,h4,h5,huv,w4]
     refine ⟨_,_,Ghost.refl,l.length-(j+1),by omega,j+1,kk,m,rfl,by omega,by omega,hml,?_,?_,?_,?_,?_,?_,rfl⟩
     ·rw[hmt];exact hcu.symm
     ·rw[show i+1+(j+1)=i+1+j+1 by omega,←List.drop_drop,hmd,List.drop_drop]
     all_goals first | (simp +decide only[go_sem,nB,reduceIte,h0,h3,h4];done) | (simp +decide only[go_sem,nB,reduceIte,h0,h3,h4];rfl)
    ·rw[if_neg (fun e=>huv e.symm)] at hcu
     have huv' : (u=v)=False:=eq_false huv
     have hmk:∃z,m[kk]?=some z:=⟨_,List.getElem?_eq_getElem (by omega)⟩
     obtain ⟨z,hmk⟩:=hmk
     simp +decide only[go_sem,nT,nA,nS,nM,nB,reduceIte,reduceCtorEq,h0,h3,h4,h5,huv',w4,hmu,hkl,hmk,hml,w5]
     repeat (with_reducible refine And.intro ?_ ?_;·(with_reducible and_intros) <;> omega)
     refine ⟨_,_,Ghost.refl,l.length-(j+1),by omega,j+1,kk+1,m.set kk u,rfl,by omega,by omega,by simpa using hml,?_,?_,?_,?_,?_,?_,?_⟩
     ·rw[show i+1+(j+1+1)=i+1+j+2 by omega,hcu,←show i+1+(j+1)=i+1+j+1 by omega,←hmt,List.take_add_one,List.getElem?_set_self (by omega),List.take_set_of_le (by omega)]
      rfl
     ·rw[List.drop_set_of_lt (by omega),show i+1+(j+1)=i+1+j+1 by omega,←List.drop_drop,hmd,List.drop_drop]
     all_goals first | (simp +decide only[go_sem,nB,reduceIte,h0,h3,h4];done) | (simp +decide only[go_sem,nB,reduceIte,h0,h3,h4];rfl) | (simp +decide only[go_sem,nT,nA,nS,nM,nB,reduceIte,reduceCtorEq];done)
   ·have hlt3' : (((j+1:Nat):Int)<((l.length-(i+1):Nat):Int))=False:=by simp only[eq_iff_iff,iff_false];omega
    rw[show i+1+(j+1)=l.length by omega,List.take_length] at hmt
    have hcl:(zCe l).length=kk:=by rw[←hmt,List.length_take];omega
    have htk:List.take kk (zCe l++List.replicate (l.length-kk) (0:Int))=zCe l:=List.take_left' hcl
    simp +decide only[go_sem,nT,nA,nS,nM,nB,reduceIte,reduceCtorEq,h0,h3,h4,h5,hlt3',hml,hmt,hcl,htk,List.length_append,List.length_replicate]
    repeat (with_reducible refine And.intro ?_ ?_;·(with_reducible and_intros) <;> omega)
    exact ⟨rfl,.inr ⟨rfl,rfl⟩⟩
  ·rw[if_neg (fun e=>hxy e.symm)] at hct
   have hxy' : (x=y)=False:=eq_false hxy
   simp +decide only[go_sem,nT,nA,nS,nM,nB,reduceIte,reduceCtorEq,h0,h3,hxy',w2]
   refine ⟨_,_,Ghost.refl,l.length-(i+1),by omega,i+1,rfl,by omega,?_,?_,?_,rfl⟩
   ·rw[hct,show i+1+1=i+1+1 from rfl,List.take_add_one (i:=i+1),hx];rfl
   all_goals first | (simp +decide only[go_sem,nB,reduceIte,h0,h3];done) | (simp +decide only[go_sem,nB,reduceIte,h0,h3];rfl)
 ·have hlt' : (((i+1:Nat):Int)<(l.length:Int))=False:=by simp only[eq_iff_iff,iff_false];omega
  rw[List.take_of_length_le (by omega)] at hc
  simp +decide only[go_sem,nT,nA,nS,nM,nB,reduceIte,reduceCtorEq,h0,h3,hlt']
  exact ⟨by simp[nmH,zET],.inl ⟨rfl,rfl,hc⟩⟩
end Go.Proofs.YtoknohandclcbaaGreat
namespace Go.Proofs.YtoknohandclcbaaGreat
open Go.RowKit
set_option maxRecDepth 8000
def zDf (pred:Ot→Bool) (l:List Ot):List Ot:=l.filter fun o=>!pred o
theorem zHr {pred:Ot→Bool} {l:List Ot} {i:Nat} {x:Ot} (hx:l[i]?=some x):zDf pred (l.take (i+1))=if pred x=true then zDf pred (l.take i) else zDf pred (l.take i)++[x]:=by
 unfold zDf
 rw[List.take_add_one,hx,List.filter_append]
 cases h:pred x <;> simp[h]
theorem zQD {pred:Ot→Bool} {l:List Ot}:(idxF pred l = -1∧zDf pred l=l)∨∃i:Nat,idxF pred l=(i:Int)∧i<l.length∧zDf pred (l.take (i+1))=l.take i:=by
 unfold idxF
 cases h:l.findIdx? pred with
 | none =>
  rw[List.findIdx?_eq_none_iff] at h
  refine .inl ⟨rfl,?_⟩
  unfold zDf
  rw[List.filter_eq_self]
  intro a ha
  rw[h a ha];rfl
 | some i =>
  rw[List.findIdx?_eq_some_iff_getElem] at h
  obtain ⟨h1,h2,h3⟩:=h
  refine .inr ⟨i,rfl,h1,?_⟩
  rw[zHr (List.getElem?_eq_getElem h1),if_pos h2]
  unfold zDf
  rw[List.filter_eq_self]
  intro a ha
  obtain ⟨j,hj⟩:=List.getElem?_of_mem ha
  have hji:j<i:=by have:=(List.getElem?_eq_some_iff.1 hj).1;simp at this;omega
  rw[List.getElem?_take_of_lt hji,List.getElem?_eq_getElem (by omega)] at hj
  have:=h3 j hji
  rw[←Option.some.inj hj]
  simpa using this
abbrev zZu (b:List Ot):HV:=.fn 106 [.fp [[.sl (ots b)]] 0 0]
abbrev zIl (b:List Ot):HObj:=⟨27,1,[[.sl (ots b)]]⟩
set_option maxHeartbeats 8000000 in
theorem zJx (l b:List Ot) (hl:l.length≤1000000) (hb:b.length≤1000000) (hs:SetO b) (hsl:∀x∈l,SmallO x) (hsb:∀x∈b,SmallO x) :
  HCalls Tryz.prog 104 [some (zIl b),some ⟨44,2,ots l⟩] [.hd 1 0 l.length,.fn 106 [.pt 0 1 0 0]]
  (fun r H'=>(r=.hd 1 0 l.length∧H'=[some (zIl b),some ⟨44,2,ots l⟩]∧zDf (hasO b) l=l)∨(r=.ow 44 2 (ots (zDf (hasO b) l))∧H'=[some (zIl b),none])):=by
 have hM:∀x∈l,HFn Tryz.prog 106 [otH x,.fp [[.sl (ots b)]] 0 0] (.v (.bool (hasO b x))):=fun x hx=>zPk b x hb hs hsb (hsl x hx)
 have hi:HFn Tryz.prog 133 [.sl (ots l),zZu b] (.v (.int .i64 (idxF (hasO b) l))):=idxO l 106 [.fp [[.sl (ots b)]] 0 0] (hasO b) hl (fun x _=>rfl) (fun i x hx _=>hM x (List.mem_of_getElem? hx))
 have hcs:=zQD (pred:=hasO b) (l:=l)
 generalize idxF (hasO b) l=q at hi hcs
 refine zB (fn:=Tryz.f104) 42 [4] (by kernel_rfl) rfl (by kernel_rfl) (HW.run 400 (by kernel_rfl) ?_)
 simp +decide only[go_sem,nT,nA,nS,nM,nB,reduceIte,reduceCtorEq]
 refine zJ 3 hi (by simp only[go_sem];rfl) rfl ?_
 rcases hcs with ⟨rfl,hk⟩ | ⟨i,rfl,hil,hk⟩
 ·simp +decide only[go_sem,nT,nA,nS,nM,nB,reduceIte,reduceCtorEq]
  exact ⟨by simp[nmH,zSl];rfl,.inl ⟨rfl,rfl,hk⟩⟩
 have hq:((i:Int) = -1)=False:=by simp only[eq_iff_iff,iff_false];omega
 have w0:IntKind.i64.wrap ((i:Int)+1)=((i+1:Nat):Int):=by rw[w64 (by omega) (by omega)];omega
 simp +decide only[go_sem,nT,nA,nS,nM,nB,reduceIte,reduceCtorEq,hq,w0]
 refine HW.loopG (fun q T H=>∃(j kk:Nat) (m:List Ot),q=l.length-j∧j≤l.length∧kk<j∧m.length=l.length∧m.take kk=zDf (hasO b) (l.take j)∧m.drop j=l.drop j∧T 0=.hd 1 0 l.length∧T 1=.fn 106 [.pt 0 1 0 0]∧T 5=.v (.int .i64 (kk:Int))∧T 6=.v (.int .i64 (j:Int))∧H=[some (zIl b),some ⟨44,2,ots m⟩]) (l.length-(i+1)) ⟨_,_,Ghost.refl,i+1,i,l,by omega,by omega,by omega,rfl,hk.symm,rfl,?_,?_,?_,?_,rfl⟩ ?_
 ·simp +decide only[go_sem,nB,reduceIte]
 ·simp +decide only[go_sem,nB,reduceIte]
 ·simp +decide only[go_sem,nB,reduceIte]
 ·simp +decide only[go_sem,nB,reduceIte]
 rintro q T H ⟨j,kk,m,rfl,hj,hkj,hml,hmt,hmd,h0,h1,h5,h6,rfl⟩
 refine HW.run 200 (by kernel_rfl) ?_
 by_cases hlt:j<l.length
 ·have hlt' : ((j:Int)<(l.length:Int))=True:=by simp only[eq_iff_iff,iff_true];omega
  have hx:l[j]?=some l[j]:=List.getElem?_eq_getElem hlt
  have hmx:m[j]?=l[j]?:=by
   have e1:(m.drop j)[0]?=(l.drop j)[0]?:=by rw[hmd]
   rw[List.getElem?_drop,List.getElem?_drop] at e1
   exact e1
  have hdr:m.drop (j+1)=l.drop (j+1):=by rw[←List.drop_drop,hmd,List.drop_drop]
  rw[hx] at hmx
  have hMx:=hM _ (List.getElem_mem hlt)
  generalize l[j]=x at hx hmx hMx
  have hkt:=zHr (pred:=hasO b) hx
  have w1:IntKind.i64.wrap ((j:Int)+1)=((j+1:Nat):Int):=by rw[w64 (by omega) (by omega)];omega
  have w2:IntKind.i64.wrap ((kk:Int)+1)=((kk+1:Nat):Int):=by rw[w64 (by omega) (by omega)];omega
  simp +decide only[go_sem,nT,nA,nS,nM,nB,reduceIte,reduceCtorEq,h0,h1,h5,h6,hlt',hml,hmx]
  repeat (with_reducible refine And.intro ?_ ?_;·(with_reducible and_intros) <;> omega)
  refine zJ 3 hMx (by simp only[go_sem];rfl) rfl ?_
  cases hb:hasO b x with
  | true =>
   rw[if_pos hb] at hkt
   simp +decide only[go_sem,nT,nA,nS,nM,nB,reduceIte,reduceCtorEq,h0,h1,h5,h6,w1,hml]
   refine ⟨_,_,Ghost.trunc [0,1,5,6] 2 (by omega) ?_ ?_,l.length-(j+1),by omega,j+1,kk,m,rfl,by omega,by omega,hml,by rw[hkt,hmt],hdr,?_,?_,?_,?_,?_⟩
   all_goals first | (simp +decide only[go_sem,nB,reduceIte,h0,h1,h5];done) | (simp +decide only[go_sem,nB,reduceIte,h0,h1,h5];rfl) | (simp +decide only[go_sem,nT,nA,nS,nM,nB,reduceIte,reduceCtorEq];done)
  | false =>
   rw[if_neg (by rw[hb];simp)] at hkt
   have hmk:∃z,m[kk]?=some z:=⟨_,List.getElem?_eq_getElem (by omega)⟩
   obtain ⟨z,hmk⟩:=hmk
   have hset:(ots m).set kk [.sl (ints x.mem),.sl (ints x.regs)]=ots (m.set kk x):=zSk
   have hkl:((kk:Int)<(l.length:Int))=True:=by simp only[eq_iff_iff,iff_true];omega
   simp +decide only[go_sem,nT,nA,nS,nM,nB,reduceIte,reduceCtorEq,h0,h1,h5,h6,w1,w2,hml,hmk,hkl,hset]
   repeat (with_reducible refine And.intro ?_ ?_;·(with_reducible and_intros) <;> omega)
   refine ⟨_,_,Ghost.trunc [0,1,5,6] 2 (by omega) ?_ ?_,l.length-(j+1),by omega,j+1,kk+1,m.set kk x,rfl,by omega,by omega,by simpa using hml,?_,?_,?_,?_,?_,?_,?_⟩
   ·simp +decide only[go_sem,nB,reduceIte,h0,h1,h5]
   ·simp +decide only[go_sem,nB,reduceIte]
   ·rw[hkt,←hmt,List.take_add_one,List.getElem?_set_self (by omega),List.take_set_of_le (by omega)]
    rfl
   ·rw[List.drop_set_of_lt (by omega),hdr]
   all_goals first | (simp +decide only[go_sem,nB,reduceIte,h0,h1,h5];done) | (simp +decide only[go_sem,nB,reduceIte,h0,h1,h5];rfl) | (simp +decide only[go_sem,nT,nA,nS,nM,nB,reduceIte,reduceCtorEq];done) | (simp +decide only[go_sem,nT,nA,nS,nM,nB,reduceIte,reduceCtorEq];exact congrArg (fun r=>[some (⟨44,2,r⟩:HObj)]) zSk)
 ·have hlt' : ((j:Int)<(l.length:Int))=False:=by simp only[eq_iff_iff,iff_false];omega
  obtain rfl:j=l.length:=by omega
  rw[List.take_length] at hmt
  have hcl:(zDf (hasO b) l).length=kk:=by rw[←hmt,List.length_take];omega
  have htk:List.take kk (ots (zDf (hasO b) l)++List.replicate (l.length-kk) [HV.v (.slice none 0 0),HV.v (.slice none 0 0)])=ots (zDf (hasO b) l):=List.take_left' (by rw[zHk,hcl])
  simp +decide only[go_sem,nT,nA,nS,nM,nB,reduceIte,reduceCtorEq,h0,h1,h5,h6,hlt',hml,hmt,hcl,htk,List.length_append,List.length_replicate]
  repeat (with_reducible refine And.intro ?_ ?_;·(with_reducible and_intros) <;> omega)
  exact ⟨rfl,.inr ⟨rfl,rfl⟩⟩
set_option maxHeartbeats 4000000 in
theorem zYU (l:List Ot) (hl:l.length≤100000000):HFn Tryz.prog 105 [.sl (ots l)] (.ow 44 2 (ots l)):=by
 refine zOs (fun hr=>?_) (fun hr a c=>?_)
 ·refine zB (fn:=Tryz.f105) 8 [2] (by kernel_rfl) rfl (by kernel_rfl) (HW.run 400 (by kernel_rfl) ?_)
  simp +decide only[go_sem,nT,nA,nS,nM,nB,reduceIte,reduceCtorEq,hr]
  (with_reducible and_intros) <;> first | omega | rfl
 ·obtain rfl:l=[]:=by cases l with | nil=>rfl | cons a l=>cases hr
  refine HCalls.conv (Q:=fun x _=>x=.v (.slice none 0 0)∨x=.ow 44 2 (ots [])) ?_ ?_
  ·refine zB (fn:=Tryz.f105) 8 [2] (by kernel_rfl) rfl (by kernel_rfl) (HW.run 400 (by kernel_rfl) ?_)
   cases a with
   | none=>simp +decide only[go_sem,nT,nA,nS,nM,nB,reduceIte,reduceCtorEq]
   | some a=>simp +decide only[go_sem,nT,nA,nS,nM,nB,reduceIte,reduceCtorEq]
  ·rintro x H' (rfl | rfl)
   ·exact ⟨_,rfl,.inr ⟨rfl,Conv.nilOw _ _⟩⟩
   ·exact ⟨_,rfl,.inl rfl⟩
theorem zSh (a b:List Ot) (hl:a.length≤1000000) (hb:b.length≤1000000) (hs:SetO b) (hsl:∀x∈a,SmallO x) (hsb:∀x∈b,SmallO x):HFn Tryz.prog 68 [.sl (ots a),.sl (ots b)] (.ow 44 2 (ots (zHm a b))):=by
 have hD:=zJx a b hl hb hs hsl hsb
 have e:zDf (hasO b) a=zHm a b:=rfl
 rw[e] at hD
 refine zB (fn:=Tryz.f68) 9 [4] (by kernel_rfl) rfl (by kernel_rfl) (HW.run 400 (by kernel_rfl) ?_)
 simp +decide only[go_sem,nT,nA,nS,nM,nB,reduceIte,reduceCtorEq]
 refine zD (zYU a (by omega)) rfl rfl ?_
 simp +decide only[go_sem,nT,nA,nS,nM,nB,reduceIte,reduceCtorEq]
 refine ⟨_,hD,fun r H' hq _=>?_⟩
 rcases hq with ⟨rfl,rfl,hk⟩ | ⟨rfl,rfl⟩
 ·simp +decide only[go_sem,nT,nA,nS,nM,nB,reduceIte,reduceCtorEq,hk]
 ·simp +decide only[go_sem,nT,nA,nS,nM,nB,reduceIte,reduceCtorEq]
end Go.Proofs.YtoknohandclcbaaGreat
namespace Go.Proofs.YtoknohandclcbaaGreat
open Go.RowKit
set_option maxRecDepth 8000
theorem zPP {v0 v2:Value} {m:Int} {w:World} {R:Ending→World→Prop}
  (hc:Calls Tryz.prog 145 #[v0,.int .i64 m,.slice none 0 0,v2] (w.alloc (.cells #[.slice none 0 0] 22)) fun e w'=>e=.returned (.tuple #[])∧w'.cell? ⟨w.heap.size,0,none⟩=some (.slice none 0 0)∧w'.frozen? ⟨w.heap.size,0,none⟩=false∧R (.returned (.slice none 0 0)) (w'.setCell ⟨w.heap.size,0,none⟩ (.slice none 0 0))) :
  Calls Tryz.prog 114 #[v0,.int .i64 m,v2] w R:=by
 have hmf:∀(fn:Fn) (first cap:Array Value) (w:World),(Instr.makeFunc fn first cap).run Tryz.prog w=.ok (.func fn first cap) w:=fun _ _ _ _=>rfl
 go_enter_defers Tryz.func114,Tryz.ntmps114
 go_wp2_with (refine Calls.mono hc ?_;rintro e w2 ⟨rfl,hcell,hfro,hR⟩)
 refine leaves_cons (f:=144) (args:=#[.pointer (some ⟨w.heap.size,0,none⟩)]) (by simp) (by simp[go_sem]) ?_
 refine (zUs ⟨w.heap.size,0,none⟩ _).mono ?_
 rintro e u' w'' ⟨rfl,rfl,rfl⟩
 have hc2:(w2.setCell ⟨w.heap.size,0,none⟩ (.slice none 0 0)).cell? ⟨w.heap.size,0,none⟩=some (.slice none 0 0):=by
  simp[go_sem,hcell]
 simp[Leaves,Go.settle,results,Tryz.results114,go_sem,hc2]
 exact hR
theorem zHc {v0 v2:Value} {m:Int} {w:World} {R:Ending→World→Prop}
  (hc:Calls Tryz.prog 145 #[v0,.int .i64 m,.slice none 0 0,v2] (w.alloc (.cells #[.slice none 0 0] 22)) fun e w2=>∃v,e=.panicked [{ v:=v,recovered:=false }]∧
   CallsD Tryz.prog 144 #[.pointer (some ⟨w.heap.size,0,none⟩)] (.panicking [{ v:=v,recovered:=false }]) w2 fun e u' w'=>e=.returned (.tuple #[])∧u'=.panicking [{ v:=v,recovered:=true }]∧∃y,w'.cell? ⟨w.heap.size,0,none⟩=some y∧R (.returned y) w') :
  Calls Tryz.prog 114 #[v0,.int .i64 m,v2] w R:=by
 have hmf:∀(fn:Fn) (first cap:Array Value) (w:World),(Instr.makeFunc fn first cap).run Tryz.prog w=.ok (.func fn first cap) w:=fun _ _ _ _=>rfl
 go_enter_defers Tryz.func114,Tryz.ntmps114
 go_wp2_with (refine Calls.mono hc ?_;rintro e w2 ⟨v,rfl,hR⟩)
 refine leaves_cons (f:=144) (args:=#[.pointer (some ⟨w.heap.size,0,none⟩)]) (by simp) (by simp[go_sem]) ?_
 refine hR.mono ?_
 rintro e u' w'' ⟨rfl,rfl,y,hy,hR⟩
 simp[Leaves,Go.settle,results,Tryz.results114,go_sem,hy]
 exact hR
end Go.Proofs.YtoknohandclcbaaGreat
namespace Go.Proofs.YtoknohandclcbaaGreat
set_option maxRecDepth 8000
def zCm:List Int→List Int→Bool
 | a::x,b::y=>if a=b then zCm x y else decide (a<b)
 | _,_=>false
def zL6 (a b:List Int):Bool:=if a.length=b.length then zCm a b else decide (a.length<b.length)
theorem zJe {f:List Int→List Int→Option (List Int)} {row r:List Int}:∀{all:List Int},tryG f row all=some r→∃n rest,n::rest <:+ all∧f rest (row++[n])=some r
 | [],h=>by simp[tryG] at h
 | n::all,h=>by
  rw[tryG] at h
  split at h
  ·rename_i r' e
   exact ⟨n,all,List.suffix_refl _,by rw[e];exact h⟩
  ·obtain ⟨m,rest,h1,h2⟩:=zJe h
   exact ⟨m,rest,h1.trans (List.suffix_cons _ _),h2⟩
theorem zCp (l:List (List Int)):∀(m:Nat) (all row r:List Int),tryF l m all row=some r→zBb r l=true∧∃s,r=row++s∧s.length=m∧s.Sublist all
 | 0,all,row,r,h=>by
  unfold tryF at h
  split at h
  ·rename_i hh
   cases h
   exact ⟨hh,[],by simp,rfl,List.nil_sublist _⟩
  ·cases h
 | m+1,all,row,r,h=>by
  obtain ⟨n,rest,h1,h2⟩:=zJe (f:=tryF l m) h
  obtain ⟨h3,s,rfl,h5,h6⟩:=zCp l m rest _ r h2
  exact ⟨h3,n::s,by simp,by simp[h5],(h6.cons_cons n).trans h1.sublist⟩
theorem zEg (l:List (List Int)):∀(m:Nat) (all row s:List Int),zCI all→s.Sublist all→s.length=m→zBb (row++s) l=true→∃r,tryF l m all row=some (row++r)∧r.length=m∧zCm s r=false
 | 0,all,row,s,_,_,hl,hh=>by
  obtain rfl:=List.length_eq_zero_iff.1 hl
  rw[List.append_nil] at hh
  exact ⟨[],by unfold tryF;rw[if_pos hh,List.append_nil],rfl,rfl⟩
 | m+1,all,row,s,ha,hs,hl,hh=>by
  have key:∀all:List Int,zCI all→s.Sublist all→∃r,tryG (tryF l m) row all=some (row++r)∧r.length=m+1∧zCm s r=false:=by
   intro all
   induction all with
   | nil =>
    intro _ hs
    have:=List.sublist_nil.1 hs
    subst this;simp at hl
   | cons n rest ih =>
    intro ha hs
    obtain ⟨a1,a2⟩:=List.pairwise_cons.1 ha
    rw[tryG]
    cases ht:tryF l m rest (row++[n]) with
    | some r' =>
     obtain ⟨h1,q,rfl,h3,h4⟩:=zCp l m rest _ _ ht
     refine ⟨n::q,by simp,by simp[h3],?_⟩
     cases hs with
     | cons _ hs =>
      cases s with
      | nil=>rfl
      | cons y s' =>
       have hy:y∈rest:=hs.subset (by simp)
       have:=a1 y hy
       unfold zCm
       rw[if_neg (by omega)];simp;omega
     | cons_cons _ hs =>
      rename_i s' _
      unfold zCm
      rw[if_pos rfl]
      obtain ⟨r2,e1,e2,e3⟩:=zEg l m rest (row++[n]) s' a2 hs (by simpa using hl) (by simpa using hh)
      rw[ht] at e1
      have:q=r2:=by
       have:=Option.some.inj e1
       exact List.append_cancel_left this
      rw[this];exact e3
    | none =>
     cases hs with
     | cons _ hs=>exact ih a2 hs
     | cons_cons _ hs =>
      rename_i s' _
      obtain ⟨r2,e1,e2,e3⟩:=zEg l m rest (row++[n]) s' a2 hs (by simpa using hl) (by simpa using hh)
      rw[ht] at e1;cases e1
  exact key all ha hs
theorem zG0 {l:List (List Int)} {all r:List Int}:∀(k m:Nat),zES l all k m=(r,true)→∃n,m≤n∧tryF l n all []=some r∧∀j,m≤j→j<n→tryF l j all []=none
 | 0,m,h=>by simp[zES] at h
 | k+1,m,h=>by
  unfold zES at h
  cases ht:tryF l m all [] with
  | some r' =>
   rw[ht] at h
   simp only[Prod.mk.injEq,and_true] at h
   subst h
   exact ⟨m,Nat.le_refl _,ht,fun j h1 h2=>by omega⟩
  | none =>
   rw[ht] at h
   obtain ⟨n,h1,h2,h3⟩:=zG0 k (m+1) h
   refine ⟨n,by omega,h2,fun j h4 h5=>?_⟩
   rcases Nat.lt_or_ge m j with hj | hj
   ·exact h3 j hj h5
   ·obtain rfl:j=m:=by omega
    exact ht
theorem zG1 {l:List (List Int)} {r:List Int} (h:zCQ l=(r,true)):(∀row∈l,row≠[])∧∃n,tryF l n (allN l) []=some r∧∀j,j<n→tryF l j (allN l) []=none:=by
 unfold zCQ at h
 split at h
 ·simp at h
 ·rename_i hn
  obtain ⟨n,h1,h2,h3⟩:=zG0 _ _ h
  refine ⟨fun row hr e=>hn ?_,n,h2,fun j hj=>h3 j (Nat.zero_le _) hj⟩
  rw[List.any_eq_true]
  exact ⟨row,hr,by rw[e];rfl⟩
theorem zK1 {a b:List Int}:zBE a b=true↔∃n,n∈a∧n∈b:=by
 unfold zBE
 rw[List.any_eq_true]
 simp[hasB]
theorem zTZ {g:List Int} {l:List (List Int)}:zBb g l=true↔∀row∈l,∃n,n∈row∧n∈g:=by
 unfold zBb
 rw[List.all_eq_true]
 exact ⟨fun h row hr=>zK1.1 (h row hr),fun h row hr=>zK1.2 (h row hr)⟩
theorem zId:∀{all s:List Int},zCI all→zCI s→(∀y∈s,y∈all)→s.Sublist all
 | [],s,_,_,h=>by
  cases s with
  | nil=>exact List.nil_sublist _
  | cons y s=>have:=h y (by simp);simp at this
 | x::all,[],_,_,_=>List.nil_sublist _
 | x::all,y::s,ha,hs,h=>by
  obtain ⟨a1,a2⟩:=List.pairwise_cons.1 ha
  obtain ⟨s1,s2⟩:=List.pairwise_cons.1 hs
  by_cases e:x=y
  ·subst e
   refine (zId a2 s2 fun z hz=>?_).cons_cons x
   rcases List.mem_cons.1 (h z (by simp[hz])) with rfl | hz2
   ·have:=s1 z hz;omega
   ·exact hz2
  ·have hy:y∈all:=by
    rcases List.mem_cons.1 (h y (by simp)) with hy | hy
    ·exact absurd hy.symm e
    ·exact hy
   refine (zId a2 hs fun z hz=>?_).cons x
   rcases List.mem_cons.1 (h z hz) with rfl | hz2
   ·rcases List.mem_cons.1 hz with hz | hz
    ·exact absurd hz e
    ·have:=a1 y hy;have:=s1 z hz;omega
   ·exact hz2
theorem zK4 {l:List (List Int)} {r g:List Int} (h:zCQ l=(r,true)) (hg:zCI g) (hh:zBb g l=true):zL6 g r=false:=by
 obtain ⟨_,n,h1,h2⟩:=zG1 h
 obtain ⟨_,q,e,hq,_⟩:=zCp l n _ _ _ h1
 rw[List.nil_append] at e
 subst e
 let g':=g.filter fun y=>decide (y∈allN l)
 have hg' : zCI g':=hg.sublist List.filter_sublist
 have hsub:g'.Sublist (allN l):=zId (zGz l) hg' fun y hy=>by
  have:=List.mem_filter.1 hy
  simpa using this.2
 have hh' : zBb g' l=true:=by
  rw[zTZ] at hh⊢
  intro row hr
  obtain ⟨y,y1,y2⟩:=hh row hr
  exact ⟨y,y1,List.mem_filter.2 ⟨y2,by rw[decide_eq_true_iff];exact zJY.2 ⟨row,hr,y1⟩⟩⟩
 obtain ⟨r',e1,e2,e3⟩:=zEg l g'.length (allN l) [] g' (zGz l) hsub rfl (by simpa using hh')
 have hn:n≤g'.length:=by
  rcases Nat.lt_or_ge g'.length n with hlt | hge
  ·rw[h2 _ hlt] at e1;cases e1
  ·exact hge
 have hle:g'.length≤g.length:=List.filter_sublist.length_le
 unfold zL6
 split
 ·rename_i hl
  have hl2:g'.length=g.length:=by omega
  have eg:g'=g:=List.filter_sublist.eq_of_length hl2
  have en:n=g'.length:=by omega
  rw[List.nil_append,←en,h1] at e1
  rw[Option.some.inj e1,←eg];exact e3
 ·simp;omega
end Go.Proofs.YtoknohandclcbaaGreat
namespace Go.Proofs.YtoknohandclcbaaGreat
open Go.RowKit
set_option maxRecDepth 8000
structure Room (Z:Nat→Prop) (FP:Nat→List Nat) (w:World) (g:OG) (FP1:Nat→List Nat):Prop where
 inv:HInv Z [some g] FP1 [some (zC8 (.v (.slice none 0 0)))] (w.alloc (.cells #[.slice none 0 0] 22))
 evo:Evo Z FP w Z FP1 (w.alloc (.cells #[.slice none 0 0] 22))
 ptr:RV Z [some g] (w.alloc (.cells #[.slice none 0 0] 22)) (.pt 0 1 0 0) (.pointer (some ⟨w.heap.size,0,none⟩)) []
 old:∀b,b<w.heap.size→(w.alloc (.cells #[.slice none 0 0] 22)).heap[b]?=w.heap[b]?
 new:(w.alloc (.cells #[.slice none 0 0] 22)).heap[w.heap.size]?=some (.cells #[.slice none 0 0] 22 (0,0))
theorem room {Z:Nat→Prop} {FP:Nat→List Nat} {w:World} (hi:HInv Z [] FP [] w):∃FP1,Room Z FP w ⟨some w.heap.size,22,1,1,1⟩ FP1:=by
 obtain ⟨FP1,i1,e1,_,p1⟩:=lay (e:=22) (sz:=1) (cap:=1) (rows:=[[.v (.slice none 0 0)]]) (cells:=#[.slice none 0 0]) (w1:=w) hi (.inl rfl) rfl (by simp) (by simp[maxLen]) (by simp)
  (by
   show RL Z [] w [.v (.slice none 0 0)] [.slice none 0 0] []
   simp only[RL,RV]
   exact ⟨_,[],[],[],rfl,rfl,⟨rfl,rfl⟩,rfl,rfl⟩)
  (by
   intro y hy
   simp at hy
   subst hy;rfl)
 have p1:=p1 rfl
 simp only[List.nil_append,List.length_nil,List.length_singleton] at i1 p1
 refine ⟨FP1,i1,e1,p1,fun b hb=>heap_alloc_old w _ hb,heap_alloc_new w _⟩
theorem zLx {Z:Nat→Prop} {FP FP1:Nat→List Nat} {w:World} {g:OG} {l:List (List Int)} {m:Nat} {all:List Int} {v0 v2:Value} (hi:HInv Z [] FP [] w) (hR:Room Z FP w g FP1) (h0:RV Z [] w (.sl (ints all)) v0 []) (h2:RV Z [] w (.sl (rws l)) v2 []) :
  RL Z [] (w.alloc (.cells #[.slice none 0 0] 22)) (tryA l m all []) [v0,.int .i64 m,.slice none 0 0,v2] []:=by
 have keep:∀{h v},RV Z [] w h v []→RV Z [] (w.alloc (.cells #[.slice none 0 0] 22)) h v []:=fun hr=>RV.nil_keep (fun b hb=>hR.old b (hi.zlt b hb)) (fun _ h=>h) (GLe.refl _) hr
 have hn:RV Z [] (w.alloc (.cells #[.slice none 0 0] 22)) (.sl (ints [])) (.slice none 0 0) []:=by
  simp only[RV]
  exact ⟨trivial,none,0,rfl,Nat.le_refl _,Nat.zero_le _,.inl rfl⟩
 have hv1:RV Z [] (w.alloc (.cells #[.slice none 0 0] 22)) (.v (.int .i64 m)) (.int .i64 m) []:=by
  simp only[RV];exact ⟨trivial,trivial⟩
 simp only[RL]
 exact ⟨v0,_,[],[],rfl,rfl,keep h0,_,_,[],[],rfl,rfl,hv1,_,_,[],[],rfl,rfl,hn,v2,_,[],[],rfl,rfl,keep h2,rfl,rfl⟩
theorem zZS {Z:Nat→Prop} {FP:Nat→List Nat} {w:World} {l:List (List Int)} {m:Nat} {all:List Int} {v0 v2:Value} (ok:TryOk l m all []) (ht:tryF l m all []=none) (hi:HInv Z [] FP [] w) (h0:RV Z [] w (.sl (ints all)) v0 []) (h2:RV Z [] w (.sl (rws l)) v2 []) :
  Calls Tryz.prog 114 #[v0,.int .i64 m,v2] w (Post Z [] FP [] w fun x H'=>H'=[]∧x=.v (.slice none 0 0)):=by
 obtain ⟨FP1,hR⟩:=room hi
 have hfp:∀id,FP id=[]:=fun id=>hi.nofp id (by simp)
 refine zPP ?_
 refine Calls.mono (((zH8 l m all [] ok).1 ht).2 Z [] (fun _=>[]) _ _ (HInv.empty hR.inv.zlt hR.inv.glob) (zLx (m:=m) hi hR h0 h2)) ?_
 rintro e w2 ⟨v,r,H',Z',G',FP',fr,rfl,rfl,hlen,i2,hv,_,_,_,_,E2⟩
 have hsz1:(w.alloc (.cells #[.slice none 0 0] 22)).heap.size=w.heap.size+1:=by simp[go_sem]
 have hk:∀b,b<w.heap.size+1→w2.heap[b]?=(w.alloc (.cells #[.slice none 0 0] 22)).heap[b]?:=fun b hb=>E2.keep b (by omega) (by simp)
 have hb0:w2.heap[w.heap.size]?=some (.cells #[.slice none 0 0] 22 (0,0)):=(hk _ (by omega)).trans hR.new
 have hz0:¬Z' w.heap.size:=fun h=>by
  rcases E2.znew _ h with h | h | ⟨id,h⟩
  ·have:=hi.zlt _ h;omega
  ·omega
  ·simp at h
 have hne:∀b,b≠w.heap.size→(w2.setCell ⟨w.heap.size,0,none⟩ (.slice none 0 0)).heap[b]?=w2.heap[b]?:=fun b hb=>Below.heap_setCell w2 _ _ b hb
 have hss:(w2.setCell ⟨w.heap.size,0,none⟩ (.slice none 0 0)).heap.size=w2.heap.size:=by simp[World.setCell]
 have hv' : v=.tuple #[]:=by
  simp only[RV,RL] at hv
  obtain ⟨ys,rfl,h,_⟩:=hv
  congr 1
  exact Array.toList_inj.1 h
 refine ⟨by rw[hv'],by simp[World.cell?,hb0],by simp[World.frozen?,hb0],?_⟩
 have hgl:Globs Z' (w2.setCell ⟨w.heap.size,0,none⟩ (.slice none 0 0)):=i2.glob.keep (fun _ h=>h) (fun b hb=>hne b (fun e=>hz0 (e▸hb)))
 refine ⟨_,.v (.slice none 0 0),[],Z',[],fun _=>[],[],rfl,⟨rfl,rfl⟩,rfl,HInv.empty (fun b hb=>by rw[hss];exact i2.zlt b hb) hgl,by simp only[RV];exact ⟨trivial,trivial⟩,by simp,by simp,by simp,GLe.refl _,?_⟩
 refine ⟨?_,?_,?_,?_,?_,fun b hb=>E2.zle b hb,?_,by simp⟩
 ·exact E2.os.trans rfl
 ·exact E2.tape.trans rfl
 ·exact E2.output.trans rfl
 ·rw[hss];have:=E2.size;omega
 ·intro b hb _
  rw[hne b (by omega),hk b (by omega),hR.old b hb]
 ·intro b hb
  rcases E2.znew b hb with h | h | ⟨id,h⟩
  ·exact .inl h
  ·exact .inr (.inl (by omega))
  ·simp at h
theorem zUq {Z:Nat→Prop} {g:OG} {G:List (Option OG)} {FP:Nat→List Nat} {w:World} {r:List Int} {b:Nat} (hr:r≠[]) (hb:g.blk=some b) (hn:g.n=1) (hi:HInv Z G FP (zLX r) w) (hG:GLt 1 [some g] G) :
  ∃y,w.cell? ⟨b,0,none⟩=some y∧∃Z' FP',RV Z' [] w (.sl (ints r)) y []∧Evo Z FP w Z' FP' w∧(∀b,Z' b→b<w.heap.size)∧Globs Z' w:=by
 obtain ⟨g0,hg0,hob⟩:=hi.live 0 _ rfl
 have e0:g0=g:=by
  rcases hG.at_ 0 (by omega) with h | h | ⟨g1,g2,h1,h2,h3⟩
  ·rw[hg0] at h;cases h
  ·rw[hg0] at h;cases h;rfl
  ·rw[hg0] at h2;cases h2
   simp at h1;subst h1
   have:=hob.n
   rw[hn] at h3
   simp[zC8] at this
   omega
 subst e0
 obtain ⟨b',cells,f,e1,e2,e3,e4,e5,e6,e7⟩:∃b' cells f,g0.blk=some b'∧FP 0=b'::f∧w.heap[b']?=some (.cells cells 22 (0,0))∧cells.size=g0.cap*1∧1≤g0.cap∧g0.cap≤maxLen∧RR Z G w [[.hd 1 0 r.length]] b' 0 f:=by
  rcases hob.at_ with ⟨h,_⟩ | h | ⟨x,hs,obj,f,h,_⟩
  ·rw[hb] at h;cases h
  ·exact h
  ·rw[hb] at h;cases h
 rw[hb] at e1;cases e1
 simp only[RR,RC] at e7
 obtain ⟨f1,f2,hf,⟨y,f3,f4,hf1,hc,h1c,hy,hf4⟩,hf2⟩:=e7
 refine ⟨y,by simpa using hc,?_⟩
 have hy3:f3=[]:=by simp only[RV] at hy;exact hy.1
 subst hy3
 have hst:St 1 w.heap.size Z G FP [] (fun _=>.hd 1 0 r.length) (zLX r) { tmps:=#[y],defers:=[] } w :=
  ⟨hi,rfl,fun i hi1=>(by
   obtain rfl:i=0:=by omega
   exact hy),rfl,by simp,by simp⟩
 obtain ⟨Z5,G5,FP5,s5,_,E5⟩:=Ghost.freezeHd (N:=1) (L:=0) (T:=fun _=>.hd 1 0 r.length) (H:=zLX r) 0 1 r.length (ob:=⟨3,1,ints r⟩) rfl rfl (by simp only[zAG]) w.heap.size Z G FP [] _ w (by omega) hst
 have h5:=s5.tmps 0 (by omega)
 refine ⟨Z5,FP5,?_,E5,s5.inv.zlt,s5.inv.glob⟩
 have h6:RV Z5 G5 w (.sl (ints r)) y []:=by
  have:upd (fun _=>HV.hd 1 0 r.length) 0 (.sl (fzoR (ints r))) 0=.sl (ints r):=by simp only[upd,if_true,zAZ]
  rw[this] at h5
  exact h5
 simpa only[RV] using h6
theorem zZR {Z:Nat→Prop} {FP:Nat→List Nat} {w:World} {l:List (List Int)} {m:Nat} {all r:List Int} {v0 v2:Value} (ok:TryOk l m all []) (ht:tryF l m all []=some r) (hr:r≠[]) (hrl:r.length≤200000) (hi:HInv Z [] FP [] w) (h0:RV Z [] w (.sl (ints all)) v0 []) (h2:RV Z [] w (.sl (rws l)) v2 []) :
  Calls Tryz.prog 114 #[v0,.int .i64 m,v2] w (Post Z [] FP [] w fun x H'=>H'=[]∧x=.sl (ints r)):=by
 obtain ⟨FP1,hR⟩:=room hi
 have hfp:∀id,FP id=[]:=fun id=>hi.nofp id (by simp)
 refine zHc ?_
 refine Calls.mono (((zH8 l m all [] ok).2 r ht).2 Z (fun _=>[]) _ _ (HInv.empty hR.inv.zlt hR.inv.glob) (zLx (m:=m) hi hR h0 h2)) ?_
 rintro e w2 ⟨v,Z',FP',rfl,i2,hv,E2⟩
 refine ⟨v,rfl,?_⟩
 have hsz1:(w.alloc (.cells #[.slice none 0 0] 22)).heap.size=w.heap.size+1:=by simp[go_sem]
 have hk:∀b,b<w.heap.size+1→w2.heap[b]?=(w.alloc (.cells #[.slice none 0 0] 22)).heap[b]?:=fun b hb=>E2.keep b (by omega) (by simp)
 have hznew:∀b,Z' b→Z b∨w.heap.size+1≤b:=fun b hb=>by
  rcases E2.znew _ hb with h | h | ⟨id,h⟩
  ·exact .inl h
  ·exact .inr (by omega)
  ·simp at h
 have i3:HInv Z' [some ⟨some w.heap.size,22,1,1,1⟩] FP1 [some (zC8 (.v (.slice none 0 0)))] w2:=by
  refine (hR.inv.keep E2.size (fun b hb=>hk b ?_)).zmore E2.zle i2.zlt (fun id b hb hz=>?_)
  ·rcases hb with hb | ⟨id,hb⟩
   ·have:=hR.inv.zlt b hb;omega
   ·have:=hR.inv.flt id b hb;omega
  ·rcases hznew b hz with h | h
   ·exact hR.inv.zfp id b hb h
   ·have:=hR.inv.flt id b hb;omega
 have E3:Evo Z FP1 (w.alloc (.cells #[.slice none 0 0] 22)) Z' FP1 w2:=⟨E2.os,E2.tape,E2.output,E2.size,fun b hb _=>hk b (by omega),E2.zle,fun b hb=>(hznew b hb).elim .inl fun h=>.inr (.inl (by omega)),fun id b hb=>.inr ⟨id,hb⟩⟩
 have p3:RV Z' [some ⟨some w.heap.size,22,1,1,1⟩] w2 (.pt 0 1 0 0) (.pointer (some ⟨w.heap.size,0,none⟩)) []:=RV.nil_keep (fun b hb=>hk b (by have:=hR.inv.zlt b hb;omega)) E2.zle (GLe.refl _) hR.ptr
 have hv3:RV Z' [some ⟨some w.heap.size,22,1,1,1⟩] w2 (.ic 179 (.sl (ints r))) v []:=RV.nil_keep (fun _ _=>rfl) (fun _ h=>h) (zBI _) hv
 refine (zY0 ⟨w.heap.size,0,none⟩ r v w2 hrl i3 p3 hv3).mono ?_
 rintro e u' w3 ⟨rfl,rfl,Z3,G3,FP3,i4,hG,E4⟩
 obtain ⟨y,hy,Z5,FP5,hry,E5,hzl,hgl⟩:=zUq hr rfl rfl i4 hG
 have hE:=(hR.evo.trans E3).trans (E4.trans E5)
 refine ⟨rfl,rfl,y,hy,_,.sl (ints r),[],Z5,[],fun _=>[],[],rfl,⟨rfl,rfl⟩,rfl,HInv.empty hzl hgl,hry,by simp,by simp,by simp,GLe.refl _,hE.os,hE.tape,hE.output,hE.size,hE.keep,hE.zle,hE.znew,by simp⟩
set_option maxHeartbeats 4000000 in
theorem zRE (p:Addr) (a:Option Addr) (c:Nat) (x:Value) (w:World) (hc:(w.alloc (.cells #[] 3)).cell? p=some x) (hz:(w.alloc (.cells #[] 3)).frozen? p=false) :
  CallsD Tryz.prog 144 #[.pointer (some p)] (.panicking [{ v:=.iface 179 (.slice a 0 c),recovered:=false }]) w fun e u' w' =>
   e=.returned (.tuple #[])∧u'=.panicking [{ v:=.iface 179 (.slice a 0 c),recovered:=true }]∧w'=(w.alloc (.cells #[] 3)).setCell p (.slice (some ⟨w.heap.size,0,none⟩) 0 0):=by
 have hf:=zTh
 have hst:∀(ad:Addr) (w:World),(storeCells ad []:Sem Unit).run Tryz.prog w=.ok () w:=fun ad w=>by simp[storeCells]
 refine callsD_of_wpS Tryz.func144 rfl fun c₀ cs hu=>?_
 apply wpS_seq
 apply wpS_region
 simp[wpOpsS,go_sem,recoverD,hu,Tryz.ntmps144,Exit.thenS]
 refine wpS_of_wp ?_
 go_wp2
 ·rename_i hK
  simp only[Sem.run_pure,Result.andThen_ok,hst,Oper.upon]
  refine hK _ _ ?_
  go_wp2
  exact ⟨rfl,_,rfl,.tuple #[],by simp[results,Tryz.results144],rfl,rfl,rfl⟩
 ·rename_i hK
  simp only[Sem.run_pure,Result.andThen_ok,hst,Oper.upon]
  refine hK _ _ ?_
  go_wp2
  exact ⟨rfl,_,rfl,.tuple #[],by simp[results,Tryz.results144],rfl,rfl,rfl⟩
 ·rename_i h1 h2 h3
  cases a with
  | none=>exact (h2 0 c rfl).elim
  | some a=>exact (h1 a 0 c rfl).elim
theorem zZT {Z:Nat→Prop} {FP:Nat→List Nat} {w:World} {l:List (List Int)} {m:Nat} {all:List Int} {v0 v2:Value} (ok:TryOk l m all []) (ht:tryF l m all []=some []) (hi:HInv Z [] FP [] w) (h0:RV Z [] w (.sl (ints all)) v0 []) (h2:RV Z [] w (.sl (rws l)) v2 []) :
  Calls Tryz.prog 114 #[v0,.int .i64 m,v2] w (Post Z [] FP [] w fun x H'=>H'=[]∧∃a,x=.v (.slice (some a) 0 0)):=by
 obtain ⟨FP1,hR⟩:=room hi
 refine zHc ?_
 refine Calls.mono (((zH8 l m all [] ok).2 [] ht).2 Z (fun _=>[]) _ _ (HInv.empty hR.inv.zlt hR.inv.glob) (zLx (m:=m) hi hR h0 h2)) ?_
 rintro e w2 ⟨v,Z',FP',rfl,i2,hv,E2⟩
 have hsz1:(w.alloc (.cells #[.slice none 0 0] 22)).heap.size=w.heap.size+1:=by simp[go_sem]
 have hk:∀b,b<w.heap.size+1→w2.heap[b]?=(w.alloc (.cells #[.slice none 0 0] 22)).heap[b]?:=fun b hb=>E2.keep b (by omega) (by simp)
 have hsz2:w.heap.size+1≤w2.heap.size:=by have:=E2.size;omega
 have hb0:w2.heap[w.heap.size]?=some (.cells #[.slice none 0 0] 22 (0,0)):=(hk _ (by omega)).trans hR.new
 have hz0:¬Z' w.heap.size:=fun h=>by
  rcases E2.znew _ h with h | h | ⟨id,h⟩
  ·have:=hi.zlt _ h;omega
  ·omega
  ·simp at h
 simp only[RV] at hv
 obtain ⟨_,z,rfl,_,a,c,rfl,_⟩:=hv
 refine ⟨_,rfl,?_⟩
 have ha0:(w2.alloc (.cells #[] 3)).heap[w.heap.size]?=some (.cells #[.slice none 0 0] 22 (0,0)):=(heap_alloc_old w2 _ (by omega)).trans hb0
 have hss:(w2.alloc (.cells #[] 3)).heap.size=w2.heap.size+1:=by simp[go_sem]
 refine (zRE ⟨w.heap.size,0,none⟩ a c (.slice none 0 0) w2 (by simp[World.cell?,ha0]) (by simp[World.frozen?,ha0])).mono ?_
 rintro e u' w3 ⟨rfl,rfl,rfl⟩
 have hone:=one_setCell (u:=.slice (some ⟨w2.heap.size,0,none⟩) 0 0) ha0
 have hs3:((w2.alloc (.cells #[] 3)).setCell ⟨w.heap.size,0,none⟩ (.slice (some ⟨w2.heap.size,0,none⟩) 0 0)).heap.size=w2.heap.size+1:=by rw[←hss];simp[World.setCell]
 have hne:∀b,b≠w.heap.size→b<w2.heap.size→((w2.alloc (.cells #[] 3)).setCell ⟨w.heap.size,0,none⟩ (.slice (some ⟨w2.heap.size,0,none⟩) 0 0)).heap[b]?=w2.heap[b]?:=fun b hb hlt=>(Below.heap_setCell _ _ _ b hb).trans (heap_alloc_old w2 _ hlt)
 refine ⟨rfl,rfl,.slice (some ⟨w2.heap.size,0,none⟩) 0 0,by simp[World.cell?,hone],?_⟩
 have hgl:Globs Z' ((w2.alloc (.cells #[] 3)).setCell ⟨w.heap.size,0,none⟩ (.slice (some ⟨w2.heap.size,0,none⟩) 0 0)):=i2.glob.keep (fun _ h=>h) (fun b hb=>hne b (fun e=>hz0 (e▸hb)) (i2.zlt b hb))
 refine ⟨_,.v (.slice (some ⟨w2.heap.size,0,none⟩) 0 0),[],Z',[],fun _=>[],[],rfl,⟨rfl,_,rfl⟩,rfl,HInv.empty (fun b hb=>by rw[hs3];have:=i2.zlt b hb;omega) hgl,by simp only[RV];exact ⟨trivial,trivial⟩,by simp,by simp,by simp,GLe.refl _,?_⟩
 refine ⟨?_,?_,?_,?_,?_,fun b hb=>E2.zle b hb,?_,by simp⟩
 ·exact E2.os.trans rfl
 ·exact E2.tape.trans rfl
 ·exact E2.output.trans rfl
 ·rw[hs3];omega
 ·intro b hb _
  rw[hne b (by omega) (by omega),hk b (by omega),hR.old b hb]
 ·intro b hb
  rcases E2.znew b hb with h | h | ⟨id,h⟩
  ·exact .inl h
  ·exact .inr (.inl (by omega))
  ·simp at h
theorem z1s {P:Program} {f:FuncId} {fn:Func} (hf:P.funcs[f]?=some fn) (hb:fn.body.isSome=true) (hn:(fn.name == "runtime.NumGoroutine")=false) (vals:Array Value) (w:World):(callFunc f vals).run P w=.ok (.enter f vals) w:=by
 obtain ⟨c,hc⟩:=Option.isSome_iff_exists.1 hb
 have hne:¬fn.name = "runtime.NumGoroutine" :=by simpa using hn
 simp[callFunc,hf,hne,hc]
theorem zT0 (l:List (List Int)) (m:Nat) (all:List Int) (ok:TryOk l m all []):HCalls Tryz.prog 114 [] [.sl (ints all),.v (.int .i64 m),.sl (rws l)] (fun x H'=>H'=[]∧match tryF l m all [] with
  | none=>x=.v (.slice none 0 0)
  | some r=>(r=[]∧∃a,x=.v (.slice (some a) 0 0))∨(r≠[]∧x=.sl (ints r))):=by
 refine ⟨z1s (fn:=Tryz.f114) rfl rfl (by kernel_rfl),fun Z G FP w vals hi ha=>?_⟩
 obtain rfl:G=[]:=List.length_eq_zero_iff.1 hi.len
 simp only[RL] at ha
 obtain ⟨v0,_,f1,f2,rfl,hf,h0,v1,_,f3,f4,rfl,hf2,h1,v2,_,f5,f6,rfl,hf3,h2,rfl,hf4⟩:=ha
 obtain ⟨rfl,rfl⟩:=List.append_eq_nil_iff.1 hf.symm
 obtain ⟨rfl,rfl⟩:=List.append_eq_nil_iff.1 hf2.symm
 obtain ⟨rfl,_⟩:=List.append_eq_nil_iff.1 hf3.symm
 have e1:=RV_v h1
 subst e1
 cases ht:tryF l m all [] with
 | none=>exact zZS ok ht hi h0 h2
 | some r =>
  by_cases hr:r=[]
  ·subst hr
   refine Calls.mono (zZT ok ht hi h0 h2) ?_
   rintro e w' ⟨v,r,H',Z',G',FP',fr,he,⟨h1,h2⟩,rest⟩
   exact ⟨v,r,H',Z',G',FP',fr,he,⟨h1,.inl ⟨rfl,h2⟩⟩,rest⟩
  ·have hrl:r.length≤200000:=by
    obtain ⟨_,s,e,hs,hsub⟩:=zCp l m all [] r ht
    rw[List.nil_append] at e
    subst e
    have:=hsub.length_le
    have:=ok.all
    omega
   refine Calls.mono (zZR ok ht hr hrl hi h0 h2) ?_
   rintro e w' ⟨v,r,H',Z',G',FP',fr,he,⟨h1,h2⟩,rest⟩
   exact ⟨v,r,H',Z',G',FP',fr,he,⟨h1,.inr ⟨hr,h2⟩⟩,rest⟩
end Go.Proofs.YtoknohandclcbaaGreat
namespace Go.Proofs.YtoknohandclcbaaGreat
open Go.RowKit
def zVT:List HV→List HV→Prop
 | [],[]=>True
 | x::xs,y::ys=>Conv x y∧zVT xs ys
 | _,_=>False
theorem zJ0 {Z:Nat→Prop} {G:List (Option OG)} {w:World}:∀{xs xs' : List HV},zVT xs xs'→∀{ys:List Value},RL Z G w xs ys []→RL Z G w xs' ys []
 | [],[],_,ys,h=>h
 | x::xs,x'::xs',hc,ys,h=>by
  simp only[RL] at h⊢
  obtain ⟨y,ys',f1,f2,rfl,e,hv,hl⟩:=h
  obtain ⟨rfl,rfl⟩:=List.append_eq_nil_iff.1 e.symm
  exact ⟨y,ys',[],[],rfl,rfl,hc.1 _ _ _ _ hv,zJ0 hc.2 hl⟩
 | [],_::_,hc,_,_=>hc.elim
 | _::_,[],hc,_,_=>hc.elim
theorem Conv.refl (x:HV):Conv x x:=fun _ _ _ _ h=>h
theorem Conv.ag {xs ys:List HV} (h:zVT xs ys):Conv (.ag xs) (.ag ys):=fun Z G w y hv=>by
 rw[RV] at hv⊢
 obtain ⟨zs,rfl,hl⟩:=hv
 exact ⟨zs,rfl,zJ0 h hl⟩
theorem Conv.tu {xs ys:List HV} (h:zVT xs ys):Conv (.tu xs) (.tu ys):=fun Z G w y hv=>by
 rw[RV] at hv⊢
 obtain ⟨zs,rfl,hl⟩:=hv
 exact ⟨zs,rfl,zJ0 h hl⟩
theorem Conv.someSl (a:Addr):Conv (.v (.slice (some a) 0 0)) (.sl []):=fun Z G w y h=>by
 simp only[RV] at h⊢
 exact ⟨trivial,some a,0,h.2,Nat.le_refl _,by simp[maxLen],.inl trivial⟩
section
variable {P:Program}
theorem HCalls.plainQ {f:FuncId} {args:List HV} {Q:HV→Heap→Prop} {H:Heap} (h:HCalls P f [] args Q) (hnm:nmL 0 args=true):HCalls P f H args (fun r H'=>Q r []∧H'=H):=by
 refine ⟨h.1,fun Z G FP w vals hi ha=>?_⟩
 have ha' : RL Z [] w args vals []:=by
  have:=zAs args 0 G vals [] hnm ha
  simpa using this
 refine Calls.mono (h.2 Z [] _ w vals (HInv.empty hi.zlt hi.glob) ha') ?_
 rintro e w' ⟨v,r,H',Z',G',FP',fr,rfl,hq,hlen,hi',hr,hnd,hfr1,hfr2,hG,hE⟩
 have hk:∀b,b<w.heap.size→w'.heap[b]?=w.heap[b]?:=fun b hb=>hE.keep b hb (by simp)
 have hnew:∀b∈fr,w.heap.size≤b:=fun b hb=>by
  rcases hfr2 b hb with h | ⟨id,h⟩
  ·exact h
  ·simp at h
 have hznew:∀b,Z' b→Z b∨w.heap.size≤b:=fun b hb=>by
  rcases hE.znew b hb with h | h | ⟨id,h⟩
  ·exact .inl h
  ·exact .inr h
  ·simp at h
 have hH' : H'=[]:=List.eq_nil_of_length_eq_zero hlen
 subst hH'
 have hG' : G'=[]:=List.eq_nil_of_length_eq_zero hi'.len
 subst hG'
 refine ⟨v,r,H,Z',G,FP,fr,rfl,⟨hq,rfl⟩,rfl,?_,RV.keep (fun _ _=>rfl) (fun _ h=>h) (zBI G) r v fr (fun _ _=>rfl) hr,hnd,fun b hb=>?_,fun b hb=>.inl (hnew b hb),GLe.refl _,⟨hE.os,hE.tape,hE.output,hE.size,fun b hb _=>hk b hb,hE.zle,fun b hb=>?_,fun id b hb=>.inr ⟨id,hb⟩⟩⟩
 ·refine (hi.keep hE.size (fun b hb=>hk b (by
   rcases hb with hb | ⟨id,hb⟩
   ·exact hi.zlt b hb
   ·exact hi.flt id b hb))).zmore hE.zle hi'.zlt (fun id b hb hz=>?_)
  rcases hznew b hz with h | h
  ·exact hi.zfp id b hb h
  ·have:=hi.flt id b hb;omega
 ·refine ⟨(hfr1 b hb).1,(hfr1 b hb).2.1,fun id hc=>?_⟩
  have:=hi.flt id b hc;have:=hnew b hb;omega
 ·rcases hznew b hb with h | h
  ·exact .inl h
  ·exact .inr (.inl h)
end
section
variable {P:Program} {k:List Item→KS} {all l:List Oper} {d:Option Nat} {r:List Item} {T:Nat→HV} {H:Heap}
theorem zUt {fid:Nat} {args args' : List HV} {Q:HV→Heap→Prop} (spec:HCalls P fid [] args' Q) (hargs:args=args') (hnm:nmL 0 args=true) (h:∀x,Q x []→k (.ops all l::r) (updO T d (zAO x H).1) (zAO x H).2):zFb k P fid H args all d l r T:=by
 subst hargs
 exact ⟨_,HCalls.plainQ spec hnm,fun x H' hx _=>by obtain ⟨hq,rfl⟩:=hx;exact h x hq⟩
end
theorem HCalls.hdGive {P:Program} {f:FuncId} {H:Heap} {k n:Nat} {ob:HObj} {pre post:List HV} {Q:HV→Heap→Prop} (h:HCalls P f [] (pre++.sl (fzoR ob.rows)::post) Q) (hn:nmL 0 (pre++.sl (fzoR ob.rows)::post)=true) (ho:H[k]?=some (some ob)) (hl:n=ob.rows.length):HCalls P f H (pre++.hd k 0 n::post) (fun r H'=>Q r []∧H'=H.set k none):=by
 refine ⟨h.1,fun Z G FP w vals hi ha=>?_⟩
 have hk:=hi.freeze k
 rw[z8] at ha
 obtain ⟨y1,y2,f1,f2,rfl,hf,ha1,ha2⟩:=ha
 obtain ⟨rfl,rfl⟩:=List.append_eq_nil_iff.1 hf.symm
 simp only[RL] at ha2
 obtain ⟨y,ys,f1,f2,rfl,hf2,h0,h2⟩:=ha2
 obtain ⟨rfl,rfl⟩:=List.append_eq_nil_iff.1 hf2.symm
 have hsl:RV (Zid Z FP k) (G.set k none) w (.sl (fzoR ob.rows)) y []:=by
  obtain ⟨g,hg,hOB,hV⟩:=zEW hi ho (by omega) h0
  unfold View at hV
  rw[RV]
  cases hb:g.blk with
  | none =>
   rw[hb] at hV
   obtain ⟨hy,_,h2⟩:=hV
   have hr:ob.rows=[]:=List.length_eq_zero_iff.1 (by omega)
   refine ⟨rfl,none,0,?_,?_,by simp[maxLen],.inl ?_⟩
   ·rw[hy,hr];rfl
   ·rw[hr];exact Nat.le_refl _
   ·rw[hr];rfl
  | some b =>
   rw[hb] at hV
   obtain ⟨ad,hy,ha⟩:=hV
   obtain ⟨b',cells,f,q1,q2,q3,q4,q5,q6,q7⟩:=hOB.cells_ hb
   rw[hb] at q1
   cases q1
   have ha':=ha (.inr rfl)
   refine ⟨rfl,some ad,g.cap,?_,by rw[zA3];exact q5,q6,?_⟩
   ·rw[hy,zA3,hl];rfl
   ·right
    refine ⟨b,0,by rw[ha',Nat.zero_mul],.inr (by rw[q2];simp),?_,?_⟩
    ·refine zCE (sz:=ob.sz) fun r hr=>?_
     rw[zCB] at hr
     obtain ⟨r',hr',rfl⟩:=List.mem_map.1 hr
     rw[zA4];exact hOB.len r' hr'
    ·exact zCT ob.rows G b 0 f ⟨fun b hb=>.inl hb,fun b hb=>.inr (by rw[q2];simp[hb])⟩ q7
 have hkeep:∀l ys,RL Z G w l ys []→RL (Zid Z FP k) (G.set k none) w l ys []:=fun l ys h=>RL.keep (fun _ _=>rfl) (fun b hb=>.inl hb) (GLe.kill k) l ys [] (by simp) h
 refine Calls.mono ((HCalls.plainQ h (H:=H.set k none) hn).2 _ _ _ w _ hk ((z8 _ _ _ _).2 ⟨y1,y::ys,[],[],rfl,rfl,hkeep _ _ ha1,by simp only[RL];exact ⟨y,ys,[],[],rfl,rfl,hsl,hkeep _ _ h2⟩⟩)) ?_
 rintro e w' ⟨v,r,H',Z',G',FP',fr,rfl,⟨hq,rfl⟩,hlen,hi',hr,hnd,hfr1,hfr2,hG,hE⟩
 refine ⟨v,_,_,Z',G',FP',fr,rfl,⟨hq,rfl⟩,by simp,hi',hr,hnd,hfr1,fun b hb=>?_,(GLe.kill k).trans hG,(zDQ k).trans hE⟩
 rcases hfr2 b hb with h | ⟨id,h⟩
 ·exact .inl h
 ·by_cases e:id=k
  ·simp[e] at h
  ·simp only[e,if_false] at h
   exact .inr ⟨id,h⟩
theorem HCalls.convB {P:Program} {f:FuncId} {H:Heap} {args args' : List HV} {Q:HV→Heap→Prop} (h:HCalls P f H args' Q) (hc:zVT args args'):HCalls P f H args Q :=
 ⟨h.1,fun Z G FP w vals hi ha=>h.2 Z G FP w vals hi (zJ0 hc ha)⟩
end Go.Proofs.YtoknohandclcbaaGreat
namespace Go.Proofs.YtoknohandclcbaaGreat
open Go.RowKit
set_option maxRecDepth 8000
theorem zLU {a:List Int} {x y:Int}:y∈zGs a x↔y∈a∨y=x:=by
 unfold zGs
 split
 ·rename_i h
  constructor
  ·exact .inl
  ·rintro (h2 | rfl)
   ·exact h2
   ·exact List.mem_of_getLast? h
 ·simp
theorem zLV {y:Int}:∀(l a:List Int),y∈l.foldl zGs a↔y∈a∨y∈l
 | [],a=>by simp
 | x::l,a=>by
  rw[List.foldl_cons,zLV l,zLU]
  simp only[List.mem_cons];grind
theorem zIH:∀(l a:List Int),zCI a→(∀x∈a,∀y∈l,x≤y)→l.Pairwise (·≤·)→zCI (l.foldl zGs a)
 | [],a,h,_,_=>h
 | x::l,a,h,hx,hl=>by
  obtain ⟨h1,h2⟩:=List.pairwise_cons.1 hl
  rw[List.foldl_cons]
  refine zIH l _ ?_ (fun z hz y hy=>?_) h2
  ·unfold zGs
   split
   ·exact h
   ·rename_i hn
    refine List.pairwise_append.2 ⟨h,by simp,fun z hz y hy=>?_⟩
    obtain rfl:=List.mem_singleton.1 hy
    have hle:=hx z hz y (by simp)
    rcases Int.lt_or_eq_of_le hle with hlt | rfl
    ·exact hlt
    ·exfalso
     apply hn
     obtain ⟨b,c,rfl⟩:=List.append_of_mem hz
     rcases List.eq_nil_or_concat c with rfl | ⟨c',w,rfl⟩
     ·simp
     ·exfalso
      have hw:=hx w (by simp) z (by simp)
      have:=(List.pairwise_append.1 h).2.1
      have:=(List.pairwise_cons.1 this).1 w (by simp)
      omega
  ·rcases zLU.1 hz with hz | rfl
   ·exact hx z hz y (by simp[hy])
   ·exact h1 y hy
theorem zRl {l:List Int} {y:Int}:y∈zCG l↔y∈l:=(List.mergeSort_perm l _).mem_iff
theorem zVw (l:List Int):(zCG l).Pairwise (·≤·):=by
 have:=List.pairwise_mergeSort (le:=fun x y:Int=>decide (x≤y)) (by simp;omega) (by simp;omega) l
 exact this.imp (by simp)
theorem zIL (l:List (List Int)):zCe (zCG l.flatten)=allN l:=by
 refine zSP (zIH _ _ List.Pairwise.nil (by simp) (zVw _)) (zGz l) fun y=>?_
 unfold zCe
 rw[zLV,zJY,zRl,List.mem_flatten]
 simp
def zOL:List Int×Bool→HV
 | (r,true)=>.tu [.sl (ints r),.v (.bool true)]
 | (_,false)=>.tu [.v (.slice none 0 0),.v (.bool false)]
theorem zT2 (l:List Int):HFn Tryz.prog 110 [.sl (ints l)] (.v (.bool l.isEmpty)):=by
 have e:decide ((l.length:Int)=0)=l.isEmpty:=by
  cases l with
  | nil=>rfl
  | cons x l=>simp only[List.length_cons,List.isEmpty_cons,decide_eq_false_iff_not];omega
 refine zB (fn:=Tryz.f110) 6 [2] (by kernel_rfl) rfl (by kernel_rfl) (HW.run 400 (by kernel_rfl) ?_)
 simp +decide only[go_sem,nT,nA,nS,nM,nB,reduceIte,reduceCtorEq]
 rw[e]
theorem zOd (l:List (List Int)):(allN l).length≤l.flatten.length:=by
 rw[←zIL]
 exact Nat.le_trans (zUl _) (by rw[zBB];exact Nat.le_refl _)
set_option maxHeartbeats 8000000 in
theorem zXQ (l:List (List Int)) (hl:l.length≤1000) (hr:∀r∈l,r.length≤1000) (hf:l.flatten.length≤10000):HFn Tryz.prog 72 [.sl (rws l)] (zOL (zCQ l)):=by
 refine HCalls.conv (Q:=fun x _=>x=zOL (zCQ l)∨∃a,zCQ l=([],true)∧x=.tu [.v (.slice (some a) 0 0),.v (.bool true)]) ?_ ?_
 rotate_left
 ·rintro x H' (rfl | ⟨a,h,rfl⟩)
  ·exact ⟨_,rfl,.inl rfl⟩
  ·exact ⟨_,rfl,.inr ⟨rfl,by rw[h];exact Conv.tu ⟨Conv.someSl a,Conv.refl _,trivial⟩⟩⟩
 have hany:=conR l 110 [] (·.isEmpty) (by omega) (fun x _=>rfl) rfl (fun i x _ _=>zT2 x)
 have hlen:=zOd l
 have hLF:zCQ l=if l.any (·.isEmpty)=true then ([],false) else zES l (allN l) ((allN l).length+1) 0:=rfl
 have hall:¬l.any (·.isEmpty)=true→tryF l (allN l).length (allN l) []=some (allN l):=fun h=>by
  have:=zNm l (allN l) [] (by rw[List.nil_append];exact zXP h)
  simpa using this
 generalize hR:zCQ l=R at hLF
 refine zB (fn:=Tryz.f72) 24 [2,3] (by kernel_rfl) rfl (by kernel_rfl) (HW.run 400 (by kernel_rfl) ?_)
 simp +decide only[go_sem,nT,nA,nS,nM,nB,reduceIte,reduceCtorEq]
 refine zD (hany) rfl rfl ?_
 cases hb:l.any (·.isEmpty) with
 | true =>
  rw[hb,if_pos rfl] at hLF
  subst hLF
  simp +decide only[go_sem,nT,nA,nS,nM,nB,reduceIte,reduceCtorEq]
  exact .inl rfl
 | false =>
  rw[hb,if_neg (by simp)] at hLF
  have hall:=hall (by rw[hb];simp)
  simp +decide only[go_sem,nT,nA,nS,nM,nB,reduceIte,reduceCtorEq]
  refine zD (zJy l (by omega) (fun r h=>by have:=hr r h;omega)) rfl rfl ?_
  simp +decide only[go_sem,nT,nA,nS,nM,nB,reduceIte,reduceCtorEq]
  refine ⟨_,zPK (id:=0) (l:=l.flatten) rfl (by omega),fun r H' hq _=>?_⟩
  obtain ⟨rfl,rfl⟩:=hq
  simp +decide only[go_sem,nT,nA,nS,nM,nB,reduceIte,reduceCtorEq]
  refine ⟨_,by rw[←zBB (l:=l.flatten)];exact zI0 (zCG l.flatten) (by rw[zBB];omega),fun r H' hq _=>?_⟩
  rw[zIL] at hq
  rcases hq with ⟨rfl,rfl,he⟩ | ⟨rfl,rfl⟩
  all_goals
   simp +decide only[go_sem,nT,nA,nS,nM,nB,reduceIte,reduceCtorEq]
   first
    | refine HW.loopG (fun k T H=>∃m:Nat,k=(allN l).length+1-m∧m≤(allN l).length∧R=zES l (allN l) ((allN l).length+1-m) m∧T 0=.sl (rws l)∧T 4=.sl (ints (allN l))∧T 5=.v (.int .i64 m)∧H=[]) ((allN l).length+1) ⟨_,_,(Ghost.freezeHd 4 0 (zCG l.flatten).length rfl rfl (by simp only[zAG])).trans (Ghost.trunc [0,4,5] 0 (by omega) ?_ ?_),0,rfl,by omega,hLF,?_,?_,?_,rfl⟩ ?_
    | refine HW.loopG (fun k T H=>∃m:Nat,k=(allN l).length+1-m∧m≤(allN l).length∧R=zES l (allN l) ((allN l).length+1-m) m∧T 0=.sl (rws l)∧T 4=.sl (ints (allN l))∧T 5=.v (.int .i64 m)∧H=[]) ((allN l).length+1) ⟨_,_,(Ghost.freezeHd 4 1 (allN l).length rfl rfl (by simp only[zAG])).trans (Ghost.trunc [0,4,5] 0 (by omega) ?_ ?_),0,rfl,by omega,hLF,?_,?_,?_,rfl⟩ ?_
   ·simp +decide only[go_sem,nB,reduceIte]
   ·simp +decide only[go_sem,nB,reduceIte]
   ·simp +decide only[go_sem,nB,reduceIte]
   ·simp +decide only[go_sem,nB,reduceIte]
    try rw[he]
   ·simp +decide only[go_sem,nB,reduceIte]
    try rfl
   rintro k T H ⟨m,rfl,hm,hI,h0,h4,h5,rfl⟩
   refine HW.run 200 (by kernel_rfl) ?_
   rw[show (allN l).length+1-m=(allN l).length-m+1 by omega,zES] at hI
   have hS:=zT0 l m (allN l) ⟨by omega,by simp;omega,by omega,fun r h=>by have:=hr r h;omega⟩
   simp +decide only[go_sem,nT,nA,nS,nM,nB,reduceIte,reduceCtorEq,h0,h4,h5]
   refine zUt hS rfl rfl ?_
   rintro x ⟨-,hx⟩
   cases ht:tryF l m (allN l) [] with
   | none =>
    rw[ht] at hx hI
    simp only at hx hI
    subst hx
    have hmn:m≠(allN l).length:=fun e=>by rw[e,hall] at ht;cases ht
    have w1:IntKind.i64.wrap ((m:Int)+1)=((m+1:Nat):Int):=by rw[w64 (by omega) (by omega)];omega
    simp +decide only[go_sem,nT,nA,nS,nM,nB,reduceIte,reduceCtorEq,h0,h4,h5,w1]
    refine ⟨_,_,Ghost.refl,(allN l).length+1-(m+1),by omega,m+1,rfl,by omega,by rw[hI,show (allN l).length+1-(m+1)=(allN l).length-m by omega],?_,?_,?_,rfl⟩
    all_goals simp +decide only[go_sem,nB,reduceIte,h0,h4]
   | some r =>
    rw[ht] at hx hI
    simp only at hx hI
    rcases hx with ⟨rfl,a,rfl⟩ | ⟨hne,rfl⟩
    ·simp +decide only[go_sem,nT,nA,nS,nM,nB,reduceIte,reduceCtorEq,h0,h4,h5]
     exact .inr ⟨a,hI,rfl⟩
    ·have hie:(ints r).isEmpty=false:=by cases r with | nil=>exact absurd rfl hne | cons x r=>rfl
     simp +decide only[go_sem,nT,nA,nS,nM,nB,reduceIte,reduceCtorEq,h0,h4,h5,hie]
     exact .inl (by rw[hI];rfl)
end Go.Proofs.YtoknohandclcbaaGreat
namespace Go.Proofs.YtoknohandclcbaaGreat
open Go.RowKit
set_option maxRecDepth 8000
end Go.Proofs.YtoknohandclcbaaGreat
namespace Go.Proofs.YtoknohandclcbaaGreat
open Go.RowKit
set_option maxRecDepth 8000
def zEY (p:Prg):Bool:=decide (60<p.init.length) || decide (9<p.thr.length) || p.thr.any fun l=>decide (300<l.length)
theorem zKg {p:Prg} (h:zEY p=false):SmallP p:=by
 simp only[zEY,Bool.or_eq_false_iff,decide_eq_false_iff_not,List.any_eq_false] at h
 exact ⟨by omega,by omega,fun l hl=>by have:=h.2 l hl;simp at this;omega⟩
theorem zTB (p:Prg):HFn Tryz.prog 80 [prgH p] (.v (.bool (zEY p))):=by
 refine zB (fn:=Tryz.f80) 28 [2] (by kernel_rfl) rfl (by kernel_rfl) (HW.run 400 (by kernel_rfl) ?_)
 by_cases c1:60<p.init.length
 ·have c1' : ((60:Int)<(p.init.length:Int))=True:=by simp only[eq_iff_iff,iff_true];omega
  simp +decide only[go_sem,nT,nA,nS,nM,nB,reduceIte,reduceCtorEq,c1']
  exact vb (by simp[zEY,c1])
 have c1' : ((60:Int)<(p.init.length:Int))=False:=by simp only[eq_iff_iff,iff_false];omega
 by_cases c2:9<p.thr.length
 ·have c2' : ((9:Int)<(p.thr.length:Int))=True:=by simp only[eq_iff_iff,iff_true];omega
  simp +decide only[go_sem,nT,nA,nS,nM,nB,reduceIte,reduceCtorEq,c1',c2']
  exact vb (by simp[zEY,c2])
 have c2' : ((9:Int)<(p.thr.length:Int))=False:=by simp only[eq_iff_iff,iff_false];omega
 have hG:zEY p=p.thr.any fun l=>decide (300<l.length):=by simp[zEY,c1,c2]
 simp +decide only[go_sem,nT,nA,nS,nM,nB,reduceIte,reduceCtorEq,c1',c2']
 rw[hG]
 refine HW.loopG (fun k T H=>∃i:Nat,k=p.thr.length-i∧i≤p.thr.length∧(∀j,j<i→∀l,p.thr[j]?=some l→¬300<l.length)∧T 1=.pt 0 1 0 0∧T 3=.v (.int .i64 i)∧H=[some ⟨25,2,[[.sl (ints p.init),.sl (thrs p.thr)]]⟩]) p.thr.length ⟨_,_,Ghost.refl,0,rfl,by omega,by simp,rfl,rfl,rfl⟩ ?_
 rintro k T H ⟨i,rfl,hi,hno,h1,h3,rfl⟩
 refine HW.run 200 (by kernel_rfl) ?_
 by_cases hlt:i<p.thr.length
 ·have hlt' : ((i:Int)<(p.thr.length:Int))=True:=by rw[zR];simp[hlt]
  have hx:p.thr[i]?=some p.thr[i]:=List.getElem?_eq_getElem hlt
  generalize p.thr[i]=l at hx
  by_cases c3:300<l.length
  ·have c3' : ((300:Int)<(l.length:Int))=True:=by simp only[eq_iff_iff,iff_true];omega
   simp +decide only[go_sem,nT,nA,nS,nM,nB,reduceIte,reduceCtorEq,h1,h3,hlt',hx,c3']
   exact vb (Eq.symm (List.any_eq_true.2 ⟨l,List.mem_of_getElem? hx,by simpa using c3⟩))
  ·have c3' : ((300:Int)<(l.length:Int))=False:=by simp only[eq_iff_iff,iff_false];omega
   simp +decide only[go_sem,nT,nA,nS,nM,nB,reduceIte,reduceCtorEq,h1,h3,hlt',hx,c3']
   refine ⟨_,_,Ghost.refl,p.thr.length-(i+1),by omega,i+1,rfl,by omega,?_,?_,?_,rfl⟩
   ·intro j hj y hy
    rcases Nat.lt_or_ge j i with h | h
    ·exact hno j h y hy
    ·obtain rfl:j=i:=by omega
     rw[hx] at hy;cases hy;exact c3
   all_goals first | (simp +decide only[go_sem,nB,reduceIte,h1];done) | (simp +decide only[go_sem,nB,reduceIte];rw[w64 (by omega) (by omega)];rfl)
 ·have hlt' : ((i:Int)<(p.thr.length:Int))=False:=by rw[zR];simp[hlt]
  simp +decide only[go_sem,nT,nA,nS,nM,nB,reduceIte,reduceCtorEq,h1,h3,hlt']
  refine vb (Eq.symm ?_)
  rw[List.any_eq_false]
  intro y hy
  obtain ⟨j,hj⟩:=List.mem_iff_getElem?.1 hy
  have:=hno j (by have:=(List.getElem?_eq_some_iff.1 hj).1;omega) y hj
  simpa using this
end Go.Proofs.YtoknohandclcbaaGreat
namespace Go.Proofs.YtoknohandclcbaaGreat
open Go.RowKit
set_option maxRecDepth 8000
def fnc:Stp:=⟨6,0,0,0,0⟩
def zAM (g:List Int) (a:Nat) (x:Stp):Stp:=if 8≤x.op then { x with to:=x.to+zAC g a x.to.toNat } else x
def insR (g:List Int):Nat→List Stp→List Stp
 | _,[]=>[]
 | n,x::l=>(if hasB g (n:Int)=true then [fnc] else [])++x::insR g (n+1) l
def insT (g:List Int) (a:Nat) (l:List Stp):List Stp:=(insR g a l).map (zAM g a)
def insF (g:List Int) (thr:List (List Stp)):Nat→List (List Stp)
 | 0=>[]
 | t+1=>insF g thr t++[insT g (zK thr t) ((thr[t]?).getD [])]
def insP (p:Prg) (g:List Int):Prg:=⟨p.init,insF g p.thr p.thr.length⟩
theorem zDg (g:List Int):∀(l r:List Stp) (n:Nat),insR g n (l++r)=insR g n l++insR g (n+l.length) r
 | [],r,n=>by simp[insR]
 | x::l,r,n=>by
  simp only[List.cons_append,insR,zDg g l r (n+1),List.length_cons,List.append_assoc]
  rw[show n+1+l.length=n+(l.length+1) by omega]
theorem zKb (g:List Int) (l:List Stp) (x:Stp) (n:Nat):insR g n (l++[x])=insR g n l++((if hasB g ((n+l.length:Nat):Int)=true then [fnc] else [])++[x]):=by
 rw[zDg];rfl
theorem zFg (g:List Int) (a:Nat):∀(l:List Stp) (j:Nat),j≤l.length→(insR g a (l.take j)).length=j+zAC g a j:=by
 intro l j
 induction j with
 | zero=>intro _;simp[insR,zAC]
 | succ j ih =>
  intro hj
  have hx:l.take (j+1)=l.take j++[l[j]'(by omega)]:=by rw[List.take_add_one,List.getElem?_eq_getElem (by omega)];rfl
  rw[hx,zKb,List.length_append,ih (by omega),List.length_take,Nat.min_eq_left (by omega)]
  have e:((a+j:Nat):Int)=(a:Int)+j:=by omega
  rw[zAC,←e]
  split <;> simp <;> omega
theorem zBV (g:List Int) (thr:List (List Stp)):∀t,(insF g thr t).length=t
 | 0=>rfl
 | t+1=>by simp[insF,zBV g thr t]
theorem zIy (g:List Int) (thr:List (List Stp)):∀(m t:Nat),t<m→(insF g thr m)[t]?=some (insT g (zK thr t) ((thr[t]?).getD []))
 | 0,t,h=>absurd h (Nat.not_lt_zero _)
 | m+1,t,h=>by
  unfold insF
  by_cases e:t<m
  ·rw[List.getElem?_append_left (by rw[zBV];exact e)]
   exact zIy g thr m t e
  ·obtain rfl:t=m:=by omega
   rw[List.getElem?_append_right (by rw[zBV];omega),zBV];simp
end Go.Proofs.YtoknohandclcbaaGreat
