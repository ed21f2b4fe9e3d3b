/- Parts of the proof: Gx, Sp, Sq, Dc, Ck, Dd, Su, Sv, Co, Cl, Cr, De. -/
import Derived.Test.YtoknohandclcbaaGreatZc13
import Derived.Test.YtoknohandclcbaaGreatZc11
import Derived.Test.YtoknohandclcbaaGreatZc09
import Derived.Test.YtoknohandclcbaaGreatZc10
open Nat renaming reduceAdd → nA, reduceSub → nS, reduceMul → nM, reduceBEq → nB
open Int renaming reduceToNat → nT
set_option linter.unusedSectionVars false
set_option linter.unusedVariables false
set_option linter.unusedSimpArgs false
namespace Go.Proofs.YtoknohandclcbaaGreat
open Go.RowKit
set_option maxRecDepth 8000
theorem zKq {a:List Int} {x y:Int}:y∈zGe a x↔y∈a∨y=x:=by
 unfold zGe
 split
 ·rename_i h
  constructor
  ·exact .inl
  ·rintro (h2 | rfl)
   ·exact h2
   ·exact List.mem_of_getLast? h
 ·simp
theorem zKr {y:Int}:∀(l a:List Int),y∈l.foldl zGe a↔y∈a∨y∈l
 | [],a=>by simp
 | x::l,a=>by
  rw[List.foldl_cons,zKr l,zKq]
  simp only[List.mem_cons];grind
theorem zHp:∀(l a:List Int),zHP a→(∀x∈a,∀y∈l,x≤y)→l.Pairwise (·≤·)→zHP (l.foldl zGe a)
 | [],a,h,_,_=>h
 | x::l,a,h,hx,hl=>by
  obtain ⟨h1,h2⟩:=List.pairwise_cons.1 hl
  rw[List.foldl_cons]
  refine zHp l _ ?_ (fun z hz y hy=>?_) h2
  ·unfold zGe
   split
   ·exact h
   ·rename_i hn
    refine List.pairwise_append.2 ⟨h,by simp,fun z hz y hy=>?_⟩
    obtain rfl:=List.mem_singleton.1 hy
    have hle:=hx z hz y (by simp)
    rcases Int.lt_or_eq_of_le hle with hlt | rfl
    ·exact hlt
    ·exfalso
     apply hn
     obtain ⟨b,c,rfl⟩:=List.append_of_mem hz
     rcases List.eq_nil_or_concat c with rfl | ⟨c',w,rfl⟩
     ·simp
     ·exfalso
      have hw:=hx w (by simp) z (by simp)
      have:=(List.pairwise_append.1 h).2.1
      have:=(List.pairwise_cons.1 this).1 w (by simp)
      omega
  ·rcases zKq.1 hz with hz | rfl
   ·exact hx z hz y (by simp[hy])
   ·exact h1 y hy
theorem zRQ {l:List Int} {y:Int}:y∈zCA l↔y∈l:=(List.mergeSort_perm l _).mem_iff
theorem zV3 (l:List Int):(zCA l).Pairwise (·≤·):=by
 have:=List.pairwise_mergeSort (le:=fun x y:Int=>decide (x≤y)) (by simp;omega) (by simp;omega) l
 exact this.imp (by simp)
theorem zHt (l:List (List Int)):zC5 (zCA l.flatten)=allN l:=by
 refine zRi (zHp _ _ List.Pairwise.nil (by simp) (zV3 _)) (zU5 l) fun y=>?_
 unfold zC5
 rw[zKr,zOL,zRQ,List.mem_flatten]
 simp
def zNi:List Int×Bool→HV
 | (r,true)=>.tu [.sl (ints r),.v (.bool true)]
 | (_,false)=>.tu [.v (.slice none 0 0),.v (.bool false)]
theorem zSs (l:List Int):HFn Tryz.prog 110 [.sl (ints l)] (.v (.bool l.isEmpty)):=by
 have e:decide ((l.length:Int)=0)=l.isEmpty:=by
  cases l with
  | nil=>rfl
  | cons x l=>simp only[List.length_cons,List.isEmpty_cons,decide_eq_false_iff_not];omega
 refine zB (fn:=Tryz.f110) 6 [2] (by kernel_rfl) rfl (by kernel_rfl) (HW.run 400 (by kernel_rfl) ?_)
 simp +decide only[go_sem,nT,nA,nS,nM,nB,reduceIte,reduceCtorEq]
 rw[e]
theorem zOM (l:List (List Int)):(allN l).length≤l.flatten.length:=by
 rw[←zHt]
 exact Nat.le_trans (zUL _) (by rw[zAx];exact Nat.le_refl _)
set_option maxHeartbeats 8000000 in
theorem zWi (l:List (List Int)) (hl:l.length≤1000) (hr:∀r∈l,r.length≤1000) (hf:l.flatten.length≤10000):HFn Tryz.prog 72 [.sl (rws l)] (zNi (zBe l)):=by
 refine HCalls.conv (Q:=fun x _=>x=zNi (zBe l)∨∃a,zBe l=([],true)∧x=.tu [.v (.slice (some a) 0 0),.v (.bool true)]) ?_ ?_
 rotate_left
 ·rintro x H' (rfl | ⟨a,h,rfl⟩)
  ·exact ⟨_,rfl,.inl rfl⟩
  ·exact ⟨_,rfl,.inr ⟨rfl,by rw[h];exact Conv.tu ⟨Conv.someSl a,Conv.refl _,trivial⟩⟩⟩
 have hany:=conR l 110 [] (·.isEmpty) (by omega) (fun x _=>rfl) rfl (fun i x _ _=>zSs x)
 have hlen:=zOM l
 have hLF:zBe l=if l.any (·.isEmpty)=true then ([],false) else zEH l (allN l) ((allN l).length+1) 0:=rfl
 have hall:¬l.any (·.isEmpty)=true→tryF l (allN l).length (allN l) []=some (allN l):=fun h=>by
  have:=zNW l (allN l) [] (by rw[List.nil_append];exact zWh h)
  simpa using this
 generalize hR:zBe l=R at hLF
 refine zB (fn:=Tryz.f72) 24 [2,3] (by kernel_rfl) rfl (by kernel_rfl) (HW.run 400 (by kernel_rfl) ?_)
 simp +decide only[go_sem,nT,nA,nS,nM,nB,reduceIte,reduceCtorEq]
 refine zD (hany) rfl rfl ?_
 cases hb:l.any (·.isEmpty) with
 | true =>
  rw[hb,if_pos rfl] at hLF
  subst hLF
  simp +decide only[go_sem,nT,nA,nS,nM,nB,reduceIte,reduceCtorEq]
  exact .inl rfl
 | false =>
  rw[hb,if_neg (by simp)] at hLF
  have hall:=hall (by rw[hb];simp)
  simp +decide only[go_sem,nT,nA,nS,nM,nB,reduceIte,reduceCtorEq]
  refine zD (zJ3 l (by omega) (fun r h=>by have:=hr r h;omega)) rfl rfl ?_
  simp +decide only[go_sem,nT,nA,nS,nM,nB,reduceIte,reduceCtorEq]
  refine ⟨_,zOk (id:=0) (l:=l.flatten) rfl (by omega),fun r H' hq _=>?_⟩
  obtain ⟨rfl,rfl⟩:=hq
  simp +decide only[go_sem,nT,nA,nS,nM,nB,reduceIte,reduceCtorEq]
  refine ⟨_,by rw[←zAx (l:=l.flatten)];exact zIG (zCA l.flatten) (by rw[zAx];omega),fun r H' hq _=>?_⟩
  rw[zHt] at hq
  rcases hq with ⟨rfl,rfl,he⟩ | ⟨rfl,rfl⟩
  all_goals
   simp +decide only[go_sem,nT,nA,nS,nM,nB,reduceIte,reduceCtorEq]
   first
    | refine HW.loopG (fun k T H=>∃m:Nat,k=(allN l).length+1-m∧m≤(allN l).length∧R=zEH l (allN l) ((allN l).length+1-m) m∧T 0=.sl (rws l)∧T 4=.sl (ints (allN l))∧T 5=.v (.int .i64 m)∧H=[]) ((allN l).length+1) ⟨_,_,(Ghost.freezeHd 4 0 (zCA l.flatten).length rfl rfl (by simp only[zAB])).trans (Ghost.trunc [0,4,5] 0 (by omega) ?_ ?_),0,rfl,by omega,hLF,?_,?_,?_,rfl⟩ ?_
    | refine HW.loopG (fun k T H=>∃m:Nat,k=(allN l).length+1-m∧m≤(allN l).length∧R=zEH l (allN l) ((allN l).length+1-m) m∧T 0=.sl (rws l)∧T 4=.sl (ints (allN l))∧T 5=.v (.int .i64 m)∧H=[]) ((allN l).length+1) ⟨_,_,(Ghost.freezeHd 4 1 (allN l).length rfl rfl (by simp only[zAB])).trans (Ghost.trunc [0,4,5] 0 (by omega) ?_ ?_),0,rfl,by omega,hLF,?_,?_,?_,rfl⟩ ?_
   ·simp +decide only[go_sem,nB,reduceIte]
   ·simp +decide only[go_sem,nB,reduceIte]
   ·simp +decide only[go_sem,nB,reduceIte]
   ·simp +decide only[go_sem,nB,reduceIte]
    try rw[he]
   ·simp +decide only[go_sem,nB,reduceIte]
    try rfl
   rintro k T H ⟨m,rfl,hm,hI,h0,h4,h5,rfl⟩
   refine HW.run 200 (by kernel_rfl) ?_
   rw[show (allN l).length+1-m=(allN l).length-m+1 by omega,zEH] at hI
   have hS:=zSq l m (allN l) ⟨by omega,by simp;omega,by omega,fun r h=>by have:=hr r h;omega⟩
   simp +decide only[go_sem,nT,nA,nS,nM,nB,reduceIte,reduceCtorEq,h0,h4,h5]
   refine zUV hS rfl rfl ?_
   rintro x ⟨-,hx⟩
   cases ht:tryF l m (allN l) [] with
   | none =>
    rw[ht] at hx hI
    simp only at hx hI
    subst hx
    have hmn:m≠(allN l).length:=fun e=>by rw[e,hall] at ht;cases ht
    have w1:IntKind.i64.wrap ((m:Int)+1)=((m+1:Nat):Int):=by rw[w64 (by omega) (by omega)];omega
    simp +decide only[go_sem,nT,nA,nS,nM,nB,reduceIte,reduceCtorEq,h0,h4,h5,w1]
    refine ⟨_,_,Ghost.refl,(allN l).length+1-(m+1),by omega,m+1,rfl,by omega,by rw[hI,show (allN l).length+1-(m+1)=(allN l).length-m by omega],?_,?_,?_,rfl⟩
    all_goals simp +decide only[go_sem,nB,reduceIte,h0,h4]
   | some r =>
    rw[ht] at hx hI
    simp only at hx hI
    rcases hx with ⟨rfl,a,rfl⟩ | ⟨hne,rfl⟩
    ·simp +decide only[go_sem,nT,nA,nS,nM,nB,reduceIte,reduceCtorEq,h0,h4,h5]
     exact .inr ⟨a,hI,rfl⟩
    ·have hie:(ints r).isEmpty=false:=by cases r with | nil=>exact absurd rfl hne | cons x r=>rfl
     simp +decide only[go_sem,nT,nA,nS,nM,nB,reduceIte,reduceCtorEq,h0,h4,h5,hie]
     exact .inl (by rw[hI];rfl)
end Go.Proofs.YtoknohandclcbaaGreat
namespace Go.Proofs.YtoknohandclcbaaGreat
open Go.RowKit
set_option maxRecDepth 8000
end Go.Proofs.YtoknohandclcbaaGreat
namespace Go.Proofs.YtoknohandclcbaaGreat
open Go.RowKit
set_option maxRecDepth 8000
def zEM (p:Prg):Bool:=decide (60<p.init.length) || decide (9<p.thr.length) || p.thr.any fun l=>decide (300<l.length)
theorem zKN {p:Prg} (h:zEM p=false):SmallP p:=by
 simp only[zEM,Bool.or_eq_false_iff,decide_eq_false_iff_not,List.any_eq_false] at h
 exact ⟨by omega,by omega,fun l hl=>by have:=h.2 l hl;simp at this;omega⟩
theorem zS2 (p:Prg):HFn Tryz.prog 80 [prgH p] (.v (.bool (zEM p))):=by
 refine zB (fn:=Tryz.f80) 28 [2] (by kernel_rfl) rfl (by kernel_rfl) (HW.run 400 (by kernel_rfl) ?_)
 by_cases c1:60<p.init.length
 ·have c1' : ((60:Int)<(p.init.length:Int))=True:=by simp only[eq_iff_iff,iff_true];omega
  simp +decide only[go_sem,nT,nA,nS,nM,nB,reduceIte,reduceCtorEq,c1']
  exact vb (by simp[zEM,c1])
 have c1' : ((60:Int)<(p.init.length:Int))=False:=by simp only[eq_iff_iff,iff_false];omega
 by_cases c2:9<p.thr.length
 ·have c2' : ((9:Int)<(p.thr.length:Int))=True:=by simp only[eq_iff_iff,iff_true];omega
  simp +decide only[go_sem,nT,nA,nS,nM,nB,reduceIte,reduceCtorEq,c1',c2']
  exact vb (by simp[zEM,c2])
 have c2' : ((9:Int)<(p.thr.length:Int))=False:=by simp only[eq_iff_iff,iff_false];omega
 have hG:zEM p=p.thr.any fun l=>decide (300<l.length):=by simp[zEM,c1,c2]
 simp +decide only[go_sem,nT,nA,nS,nM,nB,reduceIte,reduceCtorEq,c1',c2']
 rw[hG]
 refine HW.loopG (fun k T H=>∃i:Nat,k=p.thr.length-i∧i≤p.thr.length∧(∀j,j<i→∀l,p.thr[j]?=some l→¬300<l.length)∧T 1=.pt 0 1 0 0∧T 3=.v (.int .i64 i)∧H=[some ⟨25,2,[[.sl (ints p.init),.sl (thrs p.thr)]]⟩]) p.thr.length ⟨_,_,Ghost.refl,0,rfl,by omega,by simp,rfl,rfl,rfl⟩ ?_
 rintro k T H ⟨i,rfl,hi,hno,h1,h3,rfl⟩
 refine HW.run 200 (by kernel_rfl) ?_
 by_cases hlt:i<p.thr.length
 ·have hlt' : ((i:Int)<(p.thr.length:Int))=True:=by rw[z8];simp[hlt]
  have hx:p.thr[i]?=some p.thr[i]:=List.getElem?_eq_getElem hlt
  generalize p.thr[i]=l at hx
  by_cases c3:300<l.length
  ·have c3' : ((300:Int)<(l.length:Int))=True:=by simp only[eq_iff_iff,iff_true];omega
   simp +decide only[go_sem,nT,nA,nS,nM,nB,reduceIte,reduceCtorEq,h1,h3,hlt',hx,c3']
   exact vb (Eq.symm (List.any_eq_true.2 ⟨l,List.mem_of_getElem? hx,by simpa using c3⟩))
  ·have c3' : ((300:Int)<(l.length:Int))=False:=by simp only[eq_iff_iff,iff_false];omega
   simp +decide only[go_sem,nT,nA,nS,nM,nB,reduceIte,reduceCtorEq,h1,h3,hlt',hx,c3']
   refine ⟨_,_,Ghost.refl,p.thr.length-(i+1),by omega,i+1,rfl,by omega,?_,?_,?_,rfl⟩
   ·intro j hj y hy
    rcases Nat.lt_or_ge j i with h | h
    ·exact hno j h y hy
    ·obtain rfl:j=i:=by omega
     rw[hx] at hy;cases hy;exact c3
   all_goals first | (simp +decide only[go_sem,nB,reduceIte,h1];done) | (simp +decide only[go_sem,nB,reduceIte];rw[w64 (by omega) (by omega)];rfl)
 ·have hlt' : ((i:Int)<(p.thr.length:Int))=False:=by rw[z8];simp[hlt]
  simp +decide only[go_sem,nT,nA,nS,nM,nB,reduceIte,reduceCtorEq,h1,h3,hlt']
  refine vb (Eq.symm ?_)
  rw[List.any_eq_false]
  intro y hy
  obtain ⟨j,hj⟩:=List.mem_iff_getElem?.1 hy
  have:=hno j (by have:=(List.getElem?_eq_some_iff.1 hj).1;omega) y hj
  simpa using this
end Go.Proofs.YtoknohandclcbaaGreat
namespace Go.Proofs.YtoknohandclcbaaGreat
open Go.RowKit
set_option maxRecDepth 8000
def fnc:Stp:=⟨6,0,0,0,0⟩
def z2X (g:List Int) (a:Nat) (x:Stp):Stp:=if 8≤x.op then { x with to:=x.to+zCp g a x.to.toNat } else x
def insR (g:List Int):Nat→List Stp→List Stp
 | _,[]=>[]
 | n,x::l=>(if hasB g (n:Int)=true then [fnc] else [])++x::insR g (n+1) l
def insT (g:List Int) (a:Nat) (l:List Stp):List Stp:=(insR g a l).map (z2X g a)
def insF (g:List Int) (thr:List (List Stp)):Nat→List (List Stp)
 | 0=>[]
 | t+1=>insF g thr t++[insT g (z7 thr t) ((thr[t]?).getD [])]
def insP (p:Prg) (g:List Int):Prg:=⟨p.init,insF g p.thr p.thr.length⟩
theorem zGQ (g:List Int):∀(l r:List Stp) (n:Nat),insR g n (l++r)=insR g n l++insR g (n+l.length) r
 | [],r,n=>by simp[insR]
 | x::l,r,n=>by
  simp only[List.cons_append,insR,zGQ g l r (n+1),List.length_cons,List.append_assoc]
  rw[show n+1+l.length=n+(l.length+1) by omega]
theorem zSf (g:List Int) (l:List Stp) (x:Stp) (n:Nat):insR g n (l++[x])=insR g n l++((if hasB g ((n+l.length:Nat):Int)=true then [fnc] else [])++[x]):=by
 rw[zGQ];rfl
theorem zW8 (g:List Int) (a:Nat):∀(l:List Stp) (j:Nat),j≤l.length→(insR g a (l.take j)).length=j+zCp g a j:=by
 intro l j
 induction j with
 | zero=>intro _;simp[insR,zCp]
 | succ j ih =>
  intro hj
  have hx:l.take (j+1)=l.take j++[l[j]'(by omega)]:=by rw[List.take_add_one,List.getElem?_eq_getElem (by omega)];rfl
  rw[hx,zSf,List.length_append,ih (by omega),List.length_take,Nat.min_eq_left (by omega)]
  have e:((a+j:Nat):Int)=(a:Int)+j:=by omega
  rw[zCp,←e]
  split <;> simp <;> omega
theorem zF5 (g:List Int) (thr:List (List Stp)):∀t,(insF g thr t).length=t
 | 0=>rfl
 | t+1=>by simp[insF,zF5 g thr t]
theorem zNn (g:List Int) (thr:List (List Stp)):∀(m t:Nat),t<m→(insF g thr m)[t]?=some (insT g (z7 thr t) ((thr[t]?).getD []))
 | 0,t,h=>absurd h (Nat.not_lt_zero _)
 | m+1,t,h=>by
  unfold insF
  by_cases e:t<m
  ·rw[List.getElem?_append_left (by rw[zF5];exact e)]
   exact zNn g thr m t e
  ·obtain rfl:t=m:=by omega
   rw[List.getElem?_append_right (by rw[zF5];omega),zF5];simp
end Go.Proofs.YtoknohandclcbaaGreat
namespace Go.Proofs.YtoknohandclcbaaGreat
open Go.RowKit
set_option maxRecDepth 8000
def zCG:Nat→List (List Stp)→List (Nat×Nat)
 | _,[]=>[]
 | t,l::r=>(List.range l.length).map (fun a=>(t,a))++zCG (t+1) r
theorem zCW (l:List Stp) (r:List (List Stp)):∀i,z7 (l::r) (i+1)=l.length+z7 r i
 | 0=>by simp[z7]
 | i+1=>by
  have ih:=zCW l r i
  show z7 (l::r) (i+1)+(((l::r)[i+1]?).getD []).length=l.length+(z7 r i+((r[i]?).getD []).length)
  rw[ih,List.getElem?_cons_succ];omega
theorem zE4:∀(thr:List (List Stp)) (t0 t a:Nat) (l:List Stp),thr[t]?=some l→a<l.length→(zCG t0 thr)[z7 thr t+a]?=some (t0+t,a)
 | [],_,t,a,l,h,_=>by simp at h
 | x::r,t0,0,a,l,h,ha=>by
  simp at h;subst h
  unfold zCG z7
  rw[Nat.zero_add,List.getElem?_append_left (by simpa using ha)]
  simp[ha]
 | x::r,t0,t+1,a,l,h,ha=>by
  have ih:=zE4 r (t0+1) t a l (by simpa using h) ha
  rw[zCW]
  unfold zCG
  rw[List.getElem?_append_right (by simp;omega),List.length_map,List.length_range,show x.length+z7 r t+a-x.length=z7 r t+a by omega,ih]
  congr 2;omega
theorem zCY:∀(thr:List (List Stp)) (t0:Nat),(zCG t0 thr).length=z7 thr thr.length
 | [],_=>rfl
 | x::r,t0=>by
  unfold zCG
  rw[List.length_append,List.length_map,List.length_range,zCY r,List.length_cons,zCW]
def zIF (thr:List (List Stp)):List (List HV):=(zCG 0 thr).zipIdx.map fun w=>[.v (.int .i64 w.2),.ag [.v (.int .i64 w.1.1),.v (.int .i64 w.1.2)]]
theorem zFE (thr:List (List Stp)):(zIF thr).length=z7 thr thr.length:=by simp[zIF,zCY]
theorem zRS {thr:List (List Stp)} {t a:Nat} {l:List Stp} (h:thr[t]?=some l) (ha:a<l.length):(zIF thr)[z7 thr t+a]?=some [.v (.int .i64 ((z7 thr t+a:Nat):Int)),.ag [.v (.int .i64 t),.v (.int .i64 a)]]:=by
 unfold zIF
 rw[List.getElem?_map,List.getElem?_zipIdx,zE4 thr 0 t a l h ha]
 simp
def AllI (p:Prg) (m id:Nat) (J:Nat→Heap→Prop) (k:Nat) (T:Nat→HV) (H:Heap):Prop:=∃i Hq,k=p.thr.length-i∧i≤p.thr.length∧J (z7 p.thr i) Hq∧Hq.length=m∧
 T 0=.yl id∧T 1=.pt m 1 0 0∧T 3=.v (.int .i64 (z7 p.thr i))∧T 8=.sl (thrs p.thr)∧T 9=.v (.int .i64 p.thr.length)∧T 10=.v (.int .i64 i)∧
 H=Hq++[some ⟨25,2,[[.sl (ints p.init),.sl (thrs p.thr)]]⟩]
set_option maxHeartbeats 8000000 in
theorem zRR (p:Prg) (hp:SmallP p) (Hc:Heap) (n:Nat) (hn:Hc[n]?=some (some ⟨25,2,[[.sl (ints p.init),.sl (thrs p.thr)]]⟩)) :
  HSeq Tryz.prog 129 Hc [.pt n 1 0 0] (Hc.set n none) (zIF p.thr):=by
 intro id J K hid hJ hK hY h0
 refine zB (fn:=Tryz.f129) 31 [] rfl rfl (by kernel_rfl) (HW.ghost (Ghost.move 1 n 1 0 0 _ rfl hn) (HW.run 60 (by kernel_rfl) ?_))
 have hl0:(Hc.set n none).length=Hc.length:=List.length_set
 have g0:∀B:Heap,getO (Hc.set n none++B) Hc.length=getO B 0:=fun B=>zAV hl0
 simp +decide only[go_sem,nT,nA,nS,nM,nB,reduceIte,reduceCtorEq,g0]
 refine HW.loopG (AllI p Hc.length id J) p.thr.length ⟨_,_,Ghost.refl,0,_,rfl,by omega,h0,hl0,rfl,rfl,rfl,rfl,rfl,rfl,rfl⟩ ?_
 have hl:=hp.thr
 rintro k T H ⟨i,Hq,rfl,hi,hJi,hlen,h0,h1,h3,h8,h9,h10,rfl⟩
 refine HW.run 200 (by kernel_rfl) ?_
 have hsb:=zDo hp i
 by_cases hlt:i<p.thr.length
 ·have hlt' : ((i:Int)<(p.thr.length:Int))=True:=by rw[z8];simp[hlt]
  have hx:p.thr[i]?=some p.thr[i]:=List.getElem?_eq_getElem hlt
  have hxl:=hp.len _ (List.getElem_mem hlt)
  have hst:z7 p.thr (i+1)=z7 p.thr i+(p.thr[i]).length:=by show z7 p.thr i+_=_;rw[hx];rfl
  generalize p.thr[i]=l at hx hxl hst
  simp +decide only[go_sem,nT,nA,nS,nM,nB,reduceIte,reduceCtorEq,h0,h1,h3,h8,h9,h10,hlt',hx]
  refine HW.loopG (fun k T H=>∃j Hq,k=l.length-j∧j≤l.length∧J (z7 p.thr i+j) Hq∧Hq.length=Hc.length∧T 0=.yl id∧T 1=.pt Hc.length 1 0 0∧T 3=.v (.int .i64 ((z7 p.thr i+j:Nat):Int))∧T 4=.v (.int .i64 i)∧T 8=.sl (thrs p.thr)∧T 9=.v (.int .i64 p.thr.length)∧T 10=.v (.int .i64 i)∧T 16=.v (.int .i64 l.length)∧T 17=.v (.int .i64 j)∧
   H=Hq++[some ⟨25,2,[[.sl (ints p.init),.sl (thrs p.thr)]]⟩]) l.length ⟨_,_,Ghost.refl,0,Hq,rfl,by omega,hJi,hlen,?_,?_,?_,?_,?_,?_,?_,?_,?_,rfl⟩ ?_
  iterate 8 simp +decide only[go_sem,nB,reduceIte,h0,h1,h3,h8,h9,h10,Nat.add_zero]
  ·simp +decide only[go_sem,nB,reduceIte,h0];rfl
  rintro k T H ⟨j,Hq,rfl,hj,hJj,hlen,h0,h1,h3,h4,h8,h9,h10,h16,h17,rfl⟩
  refine HW.run 200 (by kernel_rfl) ?_
  by_cases hjl:j<l.length
  ·have hj' : ((j:Int)<(l.length:Int))=True:=by rw[z8];simp[hjl]
   have hX:=zRS hx hjl
   simp +decide only[go_sem,nT,nA,nS,nM,nB,reduceIte,reduceCtorEq,h0,h1,h3,h4,h8,h9,h10,h16,h17,hj']
   refine zCe hlen hid (hJ _ _ hJj).2 rfl (hY _ _ Hq hX hJj) ?_
   intro c Hq' hc' hlen'
   cases c with
   | true =>
    simp only[if_true] at hc'
    simp +decide only[go_sem,nT,nA,nS,nM,nB,reduceIte,reduceCtorEq,h0,h1,h3,h4,h8,h9,h10,h16,h17]
    refine ⟨_,_,Ghost.refl,l.length-(j+1),by omega,j+1,Hq',rfl,by omega,hc',hlen',?_,?_,?_,?_,?_,?_,?_,?_,?_,rfl⟩
    iterate 2 simp +decide only[go_sem,nB,reduceIte,h0,h1]
    ·simp +decide only[go_sem,nB,reduceIte,h3];rw[w64 (by omega) (by omega)];rfl
    iterate 5 simp +decide only[go_sem,nB,reduceIte,h4,h8,h9,h10,h16]
    ·simp +decide only[go_sem,nB,reduceIte,h17];rw[w64 (by omega) (by omega)];rfl
   | false =>
    simp only[Bool.false_eq_true,if_false] at hc'
    simp +decide only[go_sem,nT,nA,nS,nM,nB,reduceIte,reduceCtorEq,h0,h1,h3,h4,h8,h9,h10,h16,h17]
    exact zA8 hlen' (hK _ _ hc') (.inr ⟨_,hc'⟩)
  ·have hj' : ((j:Int)<(l.length:Int))=False:=by rw[z8];simp[hjl]
   have e:z7 p.thr i+j=z7 p.thr (i+1):=by omega
   simp +decide only[go_sem,nT,nA,nS,nM,nB,reduceIte,reduceCtorEq,h0,h1,h3,h4,h8,h9,h10,h16,h17,hj']
   refine ⟨_,_,Ghost.refl,p.thr.length-(i+1),by omega,i+1,Hq,rfl,by omega,e▸hJj,hlen,?_,?_,?_,?_,?_,?_,rfl⟩
   iterate 2 simp +decide only[go_sem,nB,reduceIte,h0,h1]
   ·simp +decide only[go_sem,nB,reduceIte,h3];rw[e]
   iterate 2 simp +decide only[go_sem,nB,reduceIte,h8,h9]
   ·simp +decide only[go_sem,nB,reduceIte,h10];rw[w64 (by omega) (by omega)];rfl
 ·have hlt' : ((i:Int)<(p.thr.length:Int))=False:=by rw[z8];simp[hlt]
  have e:z7 p.thr i=(zIF p.thr).length:=by rw[zFE,show i=p.thr.length by omega]
  simp +decide only[go_sem,nT,nA,nS,nM,nB,reduceIte,reduceCtorEq,h0,h1,h3,h8,h9,h10,hlt']
  exact zA8 hlen (hJ _ _ hJi).2 (.inl (e▸hJi))
theorem zV4 (p:Prg):HFn Tryz.prog 95 [prgH p] (.fn 129 [.bx 25 2 [.sl (ints p.init),.sl (thrs p.thr)]]):=by
 refine zB (fn:=Tryz.f95) 4 [2] (by kernel_rfl) rfl (by kernel_rfl) (HW.run 400 (by kernel_rfl) ?_)
 simp +decide only[go_sem,nT,nA,nS,nM,nB,reduceIte,reduceCtorEq]
end Go.Proofs.YtoknohandclcbaaGreat
namespace Go.Proofs.YtoknohandclcbaaGreat
open Go.RowKit
set_option maxRecDepth 8000
theorem zGd (g:List Int) (a:Int):∀{m n:Nat},m≤n→zCp g a m≤zCp g a n:=by
 intro m n h
 induction h with
 | refl=>exact Nat.le_refl _
 | step h ih=>rw[zCp];omega
theorem zW6 (g:List Int) (a:Nat) (l:List Stp):(insT g a l).length=l.length+zCp g a l.length:=by
 unfold insT
 rw[List.length_map]
 have:=zW8 g a l l.length (Nat.le_refl _)
 rwa [List.take_length] at this
def z4Z (p:Prg):Prop:=∀l∈p.thr,l.length≤40
end Go.Proofs.YtoknohandclcbaaGreat
namespace Go.Proofs.YtoknohandclcbaaGreat
open Go.RowKit
set_option maxRecDepth 8000
def zA6 (p:Prg) (x:Stp) (a m:Nat):Bool:=decide ((1≤x.op∧x.op≤10)∧(0≤x.reg∧x.reg≤3∧(hasR x.op=true∨x.reg=0)∧(hasM x.op=true∨x.n=0))∧
 ((hasL x.op=true→0≤x.loc∧x.loc<(p.init.length:Int))∧(hasL x.op=false→x.loc=0))∧((8≤x.op→(a:Int)<x.to∧x.to≤(m:Int))∧(x.op<8→x.to=0)))
theorem zH4 {p:Prg} {x:Stp} {a m:Nat}:zA6 p x a m=true↔RightX p x a m:=by
 unfold zA6
 rw[decide_eq_true_eq]
 exact ⟨fun ⟨h1,h2,h3,h4⟩=>⟨h1,h2,h3,h4⟩,fun ⟨h1,h2,h3,h4⟩=>⟨h1,h2,h3,h4⟩⟩
theorem tf (c:Prop) [Decidable c]:(c∧(c=True))∨(¬c∧(c=False)):=by
 by_cases h:c
 ·exact .inl ⟨h,eq_true h⟩
 ·exact .inr ⟨h,eq_false h⟩
set_option maxHeartbeats 40000000 in
theorem zRp (p:Prg) (x:Stp) (a m:Nat) (hi:p.init.length≤60) (ha:a≤1000) (hm:m≤1000):HFn Tryz.prog 117 [prgH p,stpH x,.v (.int .i64 a),.v (.int .i64 m)] (.v (.bool (zA6 p x a m))):=by
 refine zB (fn:=Tryz.f117) 139 [8] (by kernel_rfl) rfl (by kernel_rfl) (HW.run 400 (by kernel_rfl) ?_)
 by_cases h1:1≤x.op
 case neg =>
  have h1' : (x.op<1)=True:=by simp only[eq_iff_iff,iff_true];omega
  simp +decide only[go_sem,nT,nA,nS,nM,nB,reduceIte,reduceCtorEq,h1']
  refine vb (Eq.symm (decide_eq_false fun h=>h1 h.1.1))
 have h1' : (x.op<1)=False:=by simp only[eq_iff_iff,iff_false];omega
 by_cases h2:x.op≤10
 case neg =>
  have h2' : (10<x.op)=True:=by simp only[eq_iff_iff,iff_true];omega
  simp +decide only[go_sem,nT,nA,nS,nM,nB,reduceIte,reduceCtorEq,h1',h2']
  refine vb (Eq.symm (decide_eq_false fun h=>h2 h.1.2))
 have h2' : (10<x.op)=False:=by simp only[eq_iff_iff,iff_false];omega
 have hop:x.op=1∨x.op=2∨x.op=3∨x.op=4∨x.op=5∨x.op=6∨x.op=7∨x.op=8∨x.op=9∨x.op=10:=by omega
 rcases hop with h | h | h | h | h | h | h | h | h | h
 ·have hx:∀hh,zA6 p x a m=hh→HV.v (.bool hh)=HV.v (.bool (zA6 p x a m)):=fun hh e=>by rw[e]
  rcases tf (x.reg<0) with ⟨d0,c0⟩ | ⟨d0,c0⟩
  ·simp +decide only[go_sem,nT,nA,nS,nM,nB,reduceIte,reduceCtorEq,h,c0]
   refine hx false (decide_eq_false fun hh=>?_)
   rw[h] at hh
   simp +decide [hasR,hasL,hasM] at hh <;> omega
  rcases tf (3<x.reg) with ⟨d1,c1⟩ | ⟨d1,c1⟩
  ·simp +decide only[go_sem,nT,nA,nS,nM,nB,reduceIte,reduceCtorEq,h,c0,c1]
   refine hx false (decide_eq_false fun hh=>?_)
   rw[h] at hh
   simp +decide [hasR,hasL,hasM] at hh <;> omega
  rcases tf (x.loc=0) with ⟨d2,c2⟩ | ⟨d2,c2⟩
  rotate_left
  ·simp +decide only[go_sem,nT,nA,nS,nM,nB,reduceIte,reduceCtorEq,h,c0,c1,c2]
   refine hx false (decide_eq_false fun hh=>?_)
   rw[h] at hh
   simp +decide [hasR,hasL,hasM] at hh <;> omega
  rcases tf (x.to=0) with ⟨d3,c3⟩ | ⟨d3,c3⟩
  rotate_left
  ·simp +decide only[go_sem,nT,nA,nS,nM,nB,reduceIte,reduceCtorEq,h,c0,c1,c2,c3]
   refine hx false (decide_eq_false fun hh=>?_)
   rw[h] at hh
   simp +decide [hasR,hasL,hasM] at hh <;> omega
  simp +decide only[go_sem,nT,nA,nS,nM,nB,reduceIte,reduceCtorEq,h,c0,c1,c2,c3]
  refine hx true (decide_eq_true ?_)
  rw[h]
  simp +decide [hasR,hasL,hasM] <;> omega
 ·have hx:∀hh,zA6 p x a m=hh→HV.v (.bool hh)=HV.v (.bool (zA6 p x a m)):=fun hh e=>by rw[e]
  rcases tf (x.reg<0) with ⟨d0,c0⟩ | ⟨d0,c0⟩
  ·simp +decide only[go_sem,nT,nA,nS,nM,nB,reduceIte,reduceCtorEq,h,c0]
   refine hx false (decide_eq_false fun hh=>?_)
   rw[h] at hh
   simp +decide [hasR,hasL,hasM] at hh <;> omega
  rcases tf (3<x.reg) with ⟨d1,c1⟩ | ⟨d1,c1⟩
  ·simp +decide only[go_sem,nT,nA,nS,nM,nB,reduceIte,reduceCtorEq,h,c0,c1]
   refine hx false (decide_eq_false fun hh=>?_)
   rw[h] at hh
   simp +decide [hasR,hasL,hasM] at hh <;> omega
  rcases tf (x.n=0) with ⟨d2,c2⟩ | ⟨d2,c2⟩
  rotate_left
  ·simp +decide only[go_sem,nT,nA,nS,nM,nB,reduceIte,reduceCtorEq,h,c0,c1,c2]
   refine hx false (decide_eq_false fun hh=>?_)
   rw[h] at hh
   simp +decide [hasR,hasL,hasM] at hh <;> omega
  rcases tf (x.loc<0) with ⟨d3,c3⟩ | ⟨d3,c3⟩
  ·simp +decide only[go_sem,nT,nA,nS,nM,nB,reduceIte,reduceCtorEq,h,c0,c1,c2,c3]
   refine hx false (decide_eq_false fun hh=>?_)
   rw[h] at hh
   simp +decide [hasR,hasL,hasM] at hh <;> omega
  rcases tf ((p.init.length:Int)≤x.loc) with ⟨d4,c4⟩ | ⟨d4,c4⟩
  ·simp +decide only[go_sem,nT,nA,nS,nM,nB,reduceIte,reduceCtorEq,h,c0,c1,c2,c3,c4]
   refine hx false (decide_eq_false fun hh=>?_)
   rw[h] at hh
   simp +decide [hasR,hasL,hasM] at hh <;> omega
  rcases tf (x.to=0) with ⟨d5,c5⟩ | ⟨d5,c5⟩
  rotate_left
  ·simp +decide only[go_sem,nT,nA,nS,nM,nB,reduceIte,reduceCtorEq,h,c0,c1,c2,c3,c4,c5]
   refine hx false (decide_eq_false fun hh=>?_)
   rw[h] at hh
   simp +decide [hasR,hasL,hasM] at hh <;> omega
  simp +decide only[go_sem,nT,nA,nS,nM,nB,reduceIte,reduceCtorEq,h,c0,c1,c2,c3,c4,c5]
  refine hx true (decide_eq_true ?_)
  rw[h]
  simp +decide [hasR,hasL,hasM] <;> omega
 ·have hx:∀hh,zA6 p x a m=hh→HV.v (.bool hh)=HV.v (.bool (zA6 p x a m)):=fun hh e=>by rw[e]
  rcases tf (x.reg<0) with ⟨d0,c0⟩ | ⟨d0,c0⟩
  ·simp +decide only[go_sem,nT,nA,nS,nM,nB,reduceIte,reduceCtorEq,h,c0]
   refine hx false (decide_eq_false fun hh=>?_)
   rw[h] at hh
   simp +decide [hasR,hasL,hasM] at hh <;> omega
  rcases tf (3<x.reg) with ⟨d1,c1⟩ | ⟨d1,c1⟩
  ·simp +decide only[go_sem,nT,nA,nS,nM,nB,reduceIte,reduceCtorEq,h,c0,c1]
   refine hx false (decide_eq_false fun hh=>?_)
   rw[h] at hh
   simp +decide [hasR,hasL,hasM] at hh <;> omega
  rcases tf (x.n=0) with ⟨d2,c2⟩ | ⟨d2,c2⟩
  rotate_left
  ·simp +decide only[go_sem,nT,nA,nS,nM,nB,reduceIte,reduceCtorEq,h,c0,c1,c2]
   refine hx false (decide_eq_false fun hh=>?_)
   rw[h] at hh
   simp +decide [hasR,hasL,hasM] at hh <;> omega
  rcases tf (x.loc<0) with ⟨d3,c3⟩ | ⟨d3,c3⟩
  ·simp +decide only[go_sem,nT,nA,nS,nM,nB,reduceIte,reduceCtorEq,h,c0,c1,c2,c3]
   refine hx false (decide_eq_false fun hh=>?_)
   rw[h] at hh
   simp +decide [hasR,hasL,hasM] at hh <;> omega
  rcases tf ((p.init.length:Int)≤x.loc) with ⟨d4,c4⟩ | ⟨d4,c4⟩
  ·simp +decide only[go_sem,nT,nA,nS,nM,nB,reduceIte,reduceCtorEq,h,c0,c1,c2,c3,c4]
   refine hx false (decide_eq_false fun hh=>?_)
   rw[h] at hh
   simp +decide [hasR,hasL,hasM] at hh <;> omega
  rcases tf (x.to=0) with ⟨d5,c5⟩ | ⟨d5,c5⟩
  rotate_left
  ·simp +decide only[go_sem,nT,nA,nS,nM,nB,reduceIte,reduceCtorEq,h,c0,c1,c2,c3,c4,c5]
   refine hx false (decide_eq_false fun hh=>?_)
   rw[h] at hh
   simp +decide [hasR,hasL,hasM] at hh <;> omega
  simp +decide only[go_sem,nT,nA,nS,nM,nB,reduceIte,reduceCtorEq,h,c0,c1,c2,c3,c4,c5]
  refine hx true (decide_eq_true ?_)
  rw[h]
  simp +decide [hasR,hasL,hasM] <;> omega
 ·have hx:∀hh,zA6 p x a m=hh→HV.v (.bool hh)=HV.v (.bool (zA6 p x a m)):=fun hh e=>by rw[e]
  rcases tf (x.reg<0) with ⟨d0,c0⟩ | ⟨d0,c0⟩
  ·simp +decide only[go_sem,nT,nA,nS,nM,nB,reduceIte,reduceCtorEq,h,c0]
   refine hx false (decide_eq_false fun hh=>?_)
   rw[h] at hh
   simp +decide [hasR,hasL,hasM] at hh <;> omega
  rcases tf (3<x.reg) with ⟨d1,c1⟩ | ⟨d1,c1⟩
  ·simp +decide only[go_sem,nT,nA,nS,nM,nB,reduceIte,reduceCtorEq,h,c0,c1]
   refine hx false (decide_eq_false fun hh=>?_)
   rw[h] at hh
   simp +decide [hasR,hasL,hasM] at hh <;> omega
  rcases tf (x.reg=0) with ⟨d2,c2⟩ | ⟨d2,c2⟩
  rotate_left
  ·simp +decide only[go_sem,nT,nA,nS,nM,nB,reduceIte,reduceCtorEq,h,c0,c1,c2]
   refine hx false (decide_eq_false fun hh=>?_)
   rw[h] at hh
   simp +decide [hasR,hasL,hasM] at hh <;> omega
  rcases tf (x.loc<0) with ⟨d3,c3⟩ | ⟨d3,c3⟩
  ·simp +decide only[go_sem,nT,nA,nS,nM,nB,reduceIte,reduceCtorEq,h,c0,c1,c2,c3]
   refine hx false (decide_eq_false fun hh=>?_)
   rw[h] at hh
   simp +decide [hasR,hasL,hasM] at hh <;> omega
  rcases tf ((p.init.length:Int)≤x.loc) with ⟨d4,c4⟩ | ⟨d4,c4⟩
  ·simp +decide only[go_sem,nT,nA,nS,nM,nB,reduceIte,reduceCtorEq,h,c0,c1,c2,c3,c4]
   refine hx false (decide_eq_false fun hh=>?_)
   rw[h] at hh
   simp +decide [hasR,hasL,hasM] at hh <;> omega
  rcases tf (x.to=0) with ⟨d5,c5⟩ | ⟨d5,c5⟩
  rotate_left
  ·simp +decide only[go_sem,nT,nA,nS,nM,nB,reduceIte,reduceCtorEq,h,c0,c1,c2,c3,c4,c5]
   refine hx false (decide_eq_false fun hh=>?_)
   rw[h] at hh
   simp +decide [hasR,hasL,hasM] at hh <;> omega
  simp +decide only[go_sem,nT,nA,nS,nM,nB,reduceIte,reduceCtorEq,h,c0,c1,c2,c3,c4,c5]
  refine hx true (decide_eq_true ?_)
  rw[h]
  simp +decide [hasR,hasL,hasM] <;> omega
 ·have hx:∀hh,zA6 p x a m=hh→HV.v (.bool hh)=HV.v (.bool (zA6 p x a m)):=fun hh e=>by rw[e]
  rcases tf (x.reg<0) with ⟨d0,c0⟩ | ⟨d0,c0⟩
  ·simp +decide only[go_sem,nT,nA,nS,nM,nB,reduceIte,reduceCtorEq,h,c0]
   refine hx false (decide_eq_false fun hh=>?_)
   rw[h] at hh
   simp +decide [hasR,hasL,hasM] at hh <;> omega
  rcases tf (3<x.reg) with ⟨d1,c1⟩ | ⟨d1,c1⟩
  ·simp +decide only[go_sem,nT,nA,nS,nM,nB,reduceIte,reduceCtorEq,h,c0,c1]
   refine hx false (decide_eq_false fun hh=>?_)
   rw[h] at hh
   simp +decide [hasR,hasL,hasM] at hh <;> omega
  rcases tf (x.n=0) with ⟨d2,c2⟩ | ⟨d2,c2⟩
  rotate_left
  ·simp +decide only[go_sem,nT,nA,nS,nM,nB,reduceIte,reduceCtorEq,h,c0,c1,c2]
   refine hx false (decide_eq_false fun hh=>?_)
   rw[h] at hh
   simp +decide [hasR,hasL,hasM] at hh <;> omega
  rcases tf (x.loc<0) with ⟨d3,c3⟩ | ⟨d3,c3⟩
  ·simp +decide only[go_sem,nT,nA,nS,nM,nB,reduceIte,reduceCtorEq,h,c0,c1,c2,c3]
   refine hx false (decide_eq_false fun hh=>?_)
   rw[h] at hh
   simp +decide [hasR,hasL,hasM] at hh <;> omega
  rcases tf ((p.init.length:Int)≤x.loc) with ⟨d4,c4⟩ | ⟨d4,c4⟩
  ·simp +decide only[go_sem,nT,nA,nS,nM,nB,reduceIte,reduceCtorEq,h,c0,c1,c2,c3,c4]
   refine hx false (decide_eq_false fun hh=>?_)
   rw[h] at hh
   simp +decide [hasR,hasL,hasM] at hh <;> omega
  rcases tf (x.to=0) with ⟨d5,c5⟩ | ⟨d5,c5⟩
  rotate_left
  ·simp +decide only[go_sem,nT,nA,nS,nM,nB,reduceIte,reduceCtorEq,h,c0,c1,c2,c3,c4,c5]
   refine hx false (decide_eq_false fun hh=>?_)
   rw[h] at hh
   simp +decide [hasR,hasL,hasM] at hh <;> omega
  simp +decide only[go_sem,nT,nA,nS,nM,nB,reduceIte,reduceCtorEq,h,c0,c1,c2,c3,c4,c5]
  refine hx true (decide_eq_true ?_)
  rw[h]
  simp +decide [hasR,hasL,hasM] <;> omega
 ·have hx:∀hh,zA6 p x a m=hh→HV.v (.bool hh)=HV.v (.bool (zA6 p x a m)):=fun hh e=>by rw[e]
  rcases tf (x.reg<0) with ⟨d0,c0⟩ | ⟨d0,c0⟩
  ·simp +decide only[go_sem,nT,nA,nS,nM,nB,reduceIte,reduceCtorEq,h,c0]
   refine hx false (decide_eq_false fun hh=>?_)
   rw[h] at hh
   simp +decide [hasR,hasL,hasM] at hh <;> omega
  rcases tf (3<x.reg) with ⟨d1,c1⟩ | ⟨d1,c1⟩
  ·simp +decide only[go_sem,nT,nA,nS,nM,nB,reduceIte,reduceCtorEq,h,c0,c1]
   refine hx false (decide_eq_false fun hh=>?_)
   rw[h] at hh
   simp +decide [hasR,hasL,hasM] at hh <;> omega
  rcases tf (x.reg=0) with ⟨d2,c2⟩ | ⟨d2,c2⟩
  rotate_left
  ·simp +decide only[go_sem,nT,nA,nS,nM,nB,reduceIte,reduceCtorEq,h,c0,c1,c2]
   refine hx false (decide_eq_false fun hh=>?_)
   rw[h] at hh
   simp +decide [hasR,hasL,hasM] at hh <;> omega
  rcases tf (x.n=0) with ⟨d3,c3⟩ | ⟨d3,c3⟩
  rotate_left
  ·simp +decide only[go_sem,nT,nA,nS,nM,nB,reduceIte,reduceCtorEq,h,c0,c1,c2,c3]
   refine hx false (decide_eq_false fun hh=>?_)
   rw[h] at hh
   simp +decide [hasR,hasL,hasM] at hh <;> omega
  rcases tf (x.loc=0) with ⟨d4,c4⟩ | ⟨d4,c4⟩
  rotate_left
  ·simp +decide only[go_sem,nT,nA,nS,nM,nB,reduceIte,reduceCtorEq,h,c0,c1,c2,c3,c4]
   refine hx false (decide_eq_false fun hh=>?_)
   rw[h] at hh
   simp +decide [hasR,hasL,hasM] at hh <;> omega
  rcases tf (x.to=0) with ⟨d5,c5⟩ | ⟨d5,c5⟩
  rotate_left
  ·simp +decide only[go_sem,nT,nA,nS,nM,nB,reduceIte,reduceCtorEq,h,c0,c1,c2,c3,c4,c5]
   refine hx false (decide_eq_false fun hh=>?_)
   rw[h] at hh
   simp +decide [hasR,hasL,hasM] at hh <;> omega
  simp +decide only[go_sem,nT,nA,nS,nM,nB,reduceIte,reduceCtorEq,h,c0,c1,c2,c3,c4,c5]
  refine hx true (decide_eq_true ?_)
  rw[h]
  simp +decide [hasR,hasL,hasM] <;> omega
 ·have hx:∀hh,zA6 p x a m=hh→HV.v (.bool hh)=HV.v (.bool (zA6 p x a m)):=fun hh e=>by rw[e]
  rcases tf (x.reg<0) with ⟨d0,c0⟩ | ⟨d0,c0⟩
  ·simp +decide only[go_sem,nT,nA,nS,nM,nB,reduceIte,reduceCtorEq,h,c0]
   refine hx false (decide_eq_false fun hh=>?_)
   rw[h] at hh
   simp +decide [hasR,hasL,hasM] at hh <;> omega
  rcases tf (3<x.reg) with ⟨d1,c1⟩ | ⟨d1,c1⟩
  ·simp +decide only[go_sem,nT,nA,nS,nM,nB,reduceIte,reduceCtorEq,h,c0,c1]
   refine hx false (decide_eq_false fun hh=>?_)
   rw[h] at hh
   simp +decide [hasR,hasL,hasM] at hh <;> omega
  rcases tf (x.loc=0) with ⟨d2,c2⟩ | ⟨d2,c2⟩
  rotate_left
  ·simp +decide only[go_sem,nT,nA,nS,nM,nB,reduceIte,reduceCtorEq,h,c0,c1,c2]
   refine hx false (decide_eq_false fun hh=>?_)
   rw[h] at hh
   simp +decide [hasR,hasL,hasM] at hh <;> omega
  rcases tf (x.to=0) with ⟨d3,c3⟩ | ⟨d3,c3⟩
  rotate_left
  ·simp +decide only[go_sem,nT,nA,nS,nM,nB,reduceIte,reduceCtorEq,h,c0,c1,c2,c3]
   refine hx false (decide_eq_false fun hh=>?_)
   rw[h] at hh
   simp +decide [hasR,hasL,hasM] at hh <;> omega
  simp +decide only[go_sem,nT,nA,nS,nM,nB,reduceIte,reduceCtorEq,h,c0,c1,c2,c3]
  refine hx true (decide_eq_true ?_)
  rw[h]
  simp +decide [hasR,hasL,hasM] <;> omega
 ·have hx:∀hh,zA6 p x a m=hh→HV.v (.bool hh)=HV.v (.bool (zA6 p x a m)):=fun hh e=>by rw[e]
  rcases tf (x.reg<0) with ⟨d0,c0⟩ | ⟨d0,c0⟩
  ·simp +decide only[go_sem,nT,nA,nS,nM,nB,reduceIte,reduceCtorEq,h,c0]
   refine hx false (decide_eq_false fun hh=>?_)
   rw[h] at hh
   simp +decide [hasR,hasL,hasM] at hh <;> omega
  rcases tf (3<x.reg) with ⟨d1,c1⟩ | ⟨d1,c1⟩
  ·simp +decide only[go_sem,nT,nA,nS,nM,nB,reduceIte,reduceCtorEq,h,c0,c1]
   refine hx false (decide_eq_false fun hh=>?_)
   rw[h] at hh
   simp +decide [hasR,hasL,hasM] at hh <;> omega
  rcases tf (x.reg=0) with ⟨d2,c2⟩ | ⟨d2,c2⟩
  rotate_left
  ·simp +decide only[go_sem,nT,nA,nS,nM,nB,reduceIte,reduceCtorEq,h,c0,c1,c2]
   refine hx false (decide_eq_false fun hh=>?_)
   rw[h] at hh
   simp +decide [hasR,hasL,hasM] at hh <;> omega
  rcases tf (x.n=0) with ⟨d3,c3⟩ | ⟨d3,c3⟩
  rotate_left
  ·simp +decide only[go_sem,nT,nA,nS,nM,nB,reduceIte,reduceCtorEq,h,c0,c1,c2,c3]
   refine hx false (decide_eq_false fun hh=>?_)
   rw[h] at hh
   simp +decide [hasR,hasL,hasM] at hh <;> omega
  rcases tf (x.loc=0) with ⟨d4,c4⟩ | ⟨d4,c4⟩
  rotate_left
  ·simp +decide only[go_sem,nT,nA,nS,nM,nB,reduceIte,reduceCtorEq,h,c0,c1,c2,c3,c4]
   refine hx false (decide_eq_false fun hh=>?_)
   rw[h] at hh
   simp +decide [hasR,hasL,hasM] at hh <;> omega
  rcases tf ((a:Int)<x.to) with ⟨d5,c5⟩ | ⟨d5,c5⟩
  rotate_left
  ·simp +decide only[go_sem,nT,nA,nS,nM,nB,reduceIte,reduceCtorEq,h,c0,c1,c2,c3,c4,c5]
   refine hx false (decide_eq_false fun hh=>?_)
   rw[h] at hh
   simp +decide [hasR,hasL,hasM] at hh <;> omega
  rcases tf (x.to≤(m:Int)) with ⟨d6,c6⟩ | ⟨d6,c6⟩
  rotate_left
  ·simp +decide only[go_sem,nT,nA,nS,nM,nB,reduceIte,reduceCtorEq,h,c0,c1,c2,c3,c4,c5,c6]
   refine hx false (decide_eq_false fun hh=>?_)
   rw[h] at hh
   simp +decide [hasR,hasL,hasM] at hh <;> omega
  simp +decide only[go_sem,nT,nA,nS,nM,nB,reduceIte,reduceCtorEq,h,c0,c1,c2,c3,c4,c5,c6]
  refine hx true (decide_eq_true ?_)
  rw[h]
  simp +decide [hasR,hasL,hasM] <;> omega
 ·have hx:∀hh,zA6 p x a m=hh→HV.v (.bool hh)=HV.v (.bool (zA6 p x a m)):=fun hh e=>by rw[e]
  rcases tf (x.reg<0) with ⟨d0,c0⟩ | ⟨d0,c0⟩
  ·simp +decide only[go_sem,nT,nA,nS,nM,nB,reduceIte,reduceCtorEq,h,c0]
   refine hx false (decide_eq_false fun hh=>?_)
   rw[h] at hh
   simp +decide [hasR,hasL,hasM] at hh <;> omega
  rcases tf (3<x.reg) with ⟨d1,c1⟩ | ⟨d1,c1⟩
  ·simp +decide only[go_sem,nT,nA,nS,nM,nB,reduceIte,reduceCtorEq,h,c0,c1]
   refine hx false (decide_eq_false fun hh=>?_)
   rw[h] at hh
   simp +decide [hasR,hasL,hasM] at hh <;> omega
  rcases tf (x.reg=0) with ⟨d2,c2⟩ | ⟨d2,c2⟩
  rotate_left
  ·simp +decide only[go_sem,nT,nA,nS,nM,nB,reduceIte,reduceCtorEq,h,c0,c1,c2]
   refine hx false (decide_eq_false fun hh=>?_)
   rw[h] at hh
   simp +decide [hasR,hasL,hasM] at hh <;> omega
  rcases tf (x.n=0) with ⟨d3,c3⟩ | ⟨d3,c3⟩
  rotate_left
  ·simp +decide only[go_sem,nT,nA,nS,nM,nB,reduceIte,reduceCtorEq,h,c0,c1,c2,c3]
   refine hx false (decide_eq_false fun hh=>?_)
   rw[h] at hh
   simp +decide [hasR,hasL,hasM] at hh <;> omega
  rcases tf (x.loc=0) with ⟨d4,c4⟩ | ⟨d4,c4⟩
  rotate_left
  ·simp +decide only[go_sem,nT,nA,nS,nM,nB,reduceIte,reduceCtorEq,h,c0,c1,c2,c3,c4]
   refine hx false (decide_eq_false fun hh=>?_)
   rw[h] at hh
   simp +decide [hasR,hasL,hasM] at hh <;> omega
  rcases tf ((a:Int)<x.to) with ⟨d5,c5⟩ | ⟨d5,c5⟩
  rotate_left
  ·simp +decide only[go_sem,nT,nA,nS,nM,nB,reduceIte,reduceCtorEq,h,c0,c1,c2,c3,c4,c5]
   refine hx false (decide_eq_false fun hh=>?_)
   rw[h] at hh
   simp +decide [hasR,hasL,hasM] at hh <;> omega
  rcases tf (x.to≤(m:Int)) with ⟨d6,c6⟩ | ⟨d6,c6⟩
  rotate_left
  ·simp +decide only[go_sem,nT,nA,nS,nM,nB,reduceIte,reduceCtorEq,h,c0,c1,c2,c3,c4,c5,c6]
   refine hx false (decide_eq_false fun hh=>?_)
   rw[h] at hh
   simp +decide [hasR,hasL,hasM] at hh <;> omega
  simp +decide only[go_sem,nT,nA,nS,nM,nB,reduceIte,reduceCtorEq,h,c0,c1,c2,c3,c4,c5,c6]
  refine hx true (decide_eq_true ?_)
  rw[h]
  simp +decide [hasR,hasL,hasM] <;> omega
 ·have hx:∀hh,zA6 p x a m=hh→HV.v (.bool hh)=HV.v (.bool (zA6 p x a m)):=fun hh e=>by rw[e]
  rcases tf (x.reg<0) with ⟨d0,c0⟩ | ⟨d0,c0⟩
  ·simp +decide only[go_sem,nT,nA,nS,nM,nB,reduceIte,reduceCtorEq,h,c0]
   refine hx false (decide_eq_false fun hh=>?_)
   rw[h] at hh
   simp +decide [hasR,hasL,hasM] at hh <;> omega
  rcases tf (3<x.reg) with ⟨d1,c1⟩ | ⟨d1,c1⟩
  ·simp +decide only[go_sem,nT,nA,nS,nM,nB,reduceIte,reduceCtorEq,h,c0,c1]
   refine hx false (decide_eq_false fun hh=>?_)
   rw[h] at hh
   simp +decide [hasR,hasL,hasM] at hh <;> omega
  rcases tf (x.reg=0) with ⟨d2,c2⟩ | ⟨d2,c2⟩
  rotate_left
  ·simp +decide only[go_sem,nT,nA,nS,nM,nB,reduceIte,reduceCtorEq,h,c0,c1,c2]
   refine hx false (decide_eq_false fun hh=>?_)
   rw[h] at hh
   simp +decide [hasR,hasL,hasM] at hh <;> omega
  rcases tf (x.n=0) with ⟨d3,c3⟩ | ⟨d3,c3⟩
  rotate_left
  ·simp +decide only[go_sem,nT,nA,nS,nM,nB,reduceIte,reduceCtorEq,h,c0,c1,c2,c3]
   refine hx false (decide_eq_false fun hh=>?_)
   rw[h] at hh
   simp +decide [hasR,hasL,hasM] at hh <;> omega
  rcases tf (x.loc=0) with ⟨d4,c4⟩ | ⟨d4,c4⟩
  rotate_left
  ·simp +decide only[go_sem,nT,nA,nS,nM,nB,reduceIte,reduceCtorEq,h,c0,c1,c2,c3,c4]
   refine hx false (decide_eq_false fun hh=>?_)
   rw[h] at hh
   simp +decide [hasR,hasL,hasM] at hh <;> omega
  rcases tf ((a:Int)<x.to) with ⟨d5,c5⟩ | ⟨d5,c5⟩
  rotate_left
  ·simp +decide only[go_sem,nT,nA,nS,nM,nB,reduceIte,reduceCtorEq,h,c0,c1,c2,c3,c4,c5]
   refine hx false (decide_eq_false fun hh=>?_)
   rw[h] at hh
   simp +decide [hasR,hasL,hasM] at hh <;> omega
  rcases tf (x.to≤(m:Int)) with ⟨d6,c6⟩ | ⟨d6,c6⟩
  rotate_left
  ·simp +decide only[go_sem,nT,nA,nS,nM,nB,reduceIte,reduceCtorEq,h,c0,c1,c2,c3,c4,c5,c6]
   refine hx false (decide_eq_false fun hh=>?_)
   rw[h] at hh
   simp +decide [hasR,hasL,hasM] at hh <;> omega
  simp +decide only[go_sem,nT,nA,nS,nM,nB,reduceIte,reduceCtorEq,h,c0,c1,c2,c3,c4,c5,c6]
  refine hx true (decide_eq_true ?_)
  rw[h]
  simp +decide [hasR,hasL,hasM] <;> omega
end Go.Proofs.YtoknohandclcbaaGreat
namespace Go.Proofs.YtoknohandclcbaaGreat
open Go.RowKit
set_option maxRecDepth 8000
def zD3 (p:Prg) (l:List Stp) (i:Nat):Bool:=match l[i]? with | some x=>zA6 p x i l.length | none=>true
def zBd (p:Prg) (l:List Stp):Bool:=decide (l.length≤80) && (List.range l.length).all (zD3 p l)
def zCC (p:Prg):Bool:=decide (p.init.length≤4∧1≤p.thr.length∧p.thr.length≤3) && p.thr.all (zBd p)
theorem zFx {p:Prg}:zCC p=true↔RightP p:=by
 unfold zCC
 rw[Bool.and_eq_true,decide_eq_true_eq,List.all_eq_true]
 constructor
 ·rintro ⟨⟨h1,h2,h3⟩,h⟩
  refine ⟨h1,⟨h2,h3⟩,fun l hl=>?_,fun t l hl i x hx=>?_⟩
  ·have:=h l hl
   unfold zBd at this
   rw[Bool.and_eq_true,decide_eq_true_eq] at this
   exact this.1
  ·have:=h l (List.mem_of_getElem? hl)
   unfold zBd at this
   rw[Bool.and_eq_true,List.all_eq_true] at this
   have hi:=(List.getElem?_eq_some_iff.1 hx).1
   have:=this.2 i (List.mem_range.2 hi)
   unfold zD3 at this
   rw[hx] at this
   exact zH4.1 this
 ·intro h
  refine ⟨⟨h.init,h.thr.1,h.thr.2⟩,fun l hl=>?_⟩
  unfold zBd
  rw[Bool.and_eq_true,decide_eq_true_eq,List.all_eq_true]
  refine ⟨h.len l hl,fun i hi=>?_⟩
  obtain ⟨t,ht⟩:=List.getElem?_of_mem hl
  have hi:=List.mem_range.1 hi
  unfold zD3
  rw[List.getElem?_eq_getElem hi]
  exact zH4.2 (h.x t l ht i _ (List.getElem?_eq_getElem hi))
set_option maxHeartbeats 8000000 in
theorem zRq (p:Prg) (hp:SmallP p):HFn Tryz.prog 81 [prgH p] (.v (.bool (zCC p))):=by
 have hi:=hp.init
 have hl:=hp.thr
 refine zB (fn:=Tryz.f81) 63 [2] (by kernel_rfl) rfl (by kernel_rfl) (HW.run 400 (by kernel_rfl) ?_)
 rcases tf ((4:Int)<(p.init.length:Int)) with ⟨d1,c1⟩ | ⟨d1,c1⟩
 ·simp +decide only[go_sem,nT,nA,nS,nM,nB,reduceIte,reduceCtorEq,c1]
  refine vb (Eq.symm ?_)
  unfold zCC
  rw[decide_eq_false (fun h=>by omega)];rfl
 rcases tf ((p.thr.length:Int)<1) with ⟨d2,c2⟩ | ⟨d2,c2⟩
 ·simp +decide only[go_sem,nT,nA,nS,nM,nB,reduceIte,reduceCtorEq,c1,c2]
  refine vb (Eq.symm ?_)
  unfold zCC
  rw[decide_eq_false (fun h=>by omega)];rfl
 rcases tf ((3:Int)<(p.thr.length:Int)) with ⟨d3,c3⟩ | ⟨d3,c3⟩
 ·simp +decide only[go_sem,nT,nA,nS,nM,nB,reduceIte,reduceCtorEq,c1,c2,c3]
  refine vb (Eq.symm ?_)
  unfold zCC
  rw[decide_eq_false (fun h=>by omega)];rfl
 have hR:zCC p=p.thr.all (zBd p):=by
  unfold zCC
  rw[decide_eq_true (by omega)];rfl
 have bad:∀(i:Nat) l,p.thr[i]?=some l→zBd p l=false→HV.v (.bool false)=HV.v (.bool (p.thr.all (zBd p))):=fun i l hx hb=>by
  refine vb (Eq.symm ?_)
  rw[List.all_eq_false]
  exact ⟨l,List.mem_of_getElem? hx,by rw[hb];simp⟩
 rw[hR]
 simp +decide only[go_sem,nT,nA,nS,nM,nB,reduceIte,reduceCtorEq,c1,c2,c3]
 refine HW.loopG (fun k T H=>∃i:Nat,k=p.thr.length-i∧i≤p.thr.length∧(∀j,j<i→∀l,p.thr[j]?=some l→zBd p l=true)∧T 1=.pt 0 1 0 0∧T 3=.v (.int .i64 i)∧H=[some ⟨25,2,[[.sl (ints p.init),.sl (thrs p.thr)]]⟩]) p.thr.length ⟨_,_,Ghost.refl,0,rfl,by omega,by simp,rfl,rfl,rfl⟩ ?_
 rintro k T H ⟨i,rfl,hi,hno,h1,h3,rfl⟩
 refine HW.run 200 (by kernel_rfl) ?_
 by_cases hlt:i<p.thr.length
 ·have hlt' : ((i:Int)<(p.thr.length:Int))=True:=by rw[z8];simp[hlt]
  have hx:p.thr[i]?=some p.thr[i]:=List.getElem?_eq_getElem hlt
  have hxl:=hp.len _ (List.getElem_mem hlt)
  have hbad:=bad i _ hx
  generalize p.thr[i]=l at hx hxl hbad
  rcases tf ((80:Int)<(l.length:Int)) with ⟨d4,c4⟩ | ⟨d4,c4⟩
  ·simp +decide only[go_sem,nT,nA,nS,nM,nB,reduceIte,reduceCtorEq,h1,h3,hlt',hx,c4]
   refine hbad ?_
   unfold zBd
   rw[decide_eq_false (by omega)];rfl
  have hT:zBd p l=(List.range l.length).all (zD3 p l):=by
   unfold zBd
   rw[decide_eq_true (by omega)];rfl
  simp +decide only[go_sem,nT,nA,nS,nM,nB,reduceIte,reduceCtorEq,h1,h3,hlt',hx,c4]
  refine HW.loopG (fun k T H=>∃j:Nat,k=l.length-j∧j≤l.length∧(∀q,q<j→zD3 p l q=true)∧T 1=.pt 0 1 0 0∧T 3=.v (.int .i64 i)∧T 4=.v (.int .i64 j)∧H=[some ⟨25,2,[[.sl (ints p.init),.sl (thrs p.thr)]]⟩]) l.length ⟨_,_,Ghost.refl,0,rfl,by omega,by simp,?_,?_,?_,rfl⟩ ?_
  iterate 2 simp +decide only[go_sem,nB,reduceIte,h1,h3]
  ·simp +decide only[go_sem,nB,reduceIte];rfl
  clear h1 h3 T
  rintro k T H ⟨j,rfl,hj,hall,h1,h3,h4,rfl⟩
  refine HW.run 200 (by kernel_rfl) ?_
  by_cases hjl:j<l.length
  ·have hj' : ((j:Int)<(l.length:Int))=True:=by rw[z8];simp[hjl]
   have hy:l[j]?=some l[j]:=List.getElem?_eq_getElem hjl
   have hA:zD3 p l j=zA6 p l[j] j l.length:=by unfold zD3;rw[hy]
   generalize l[j]=y at hy hA
   simp +decide only[go_sem,nT,nA,nS,nM,nB,reduceIte,reduceCtorEq,h1,h3,h4,hlt',hx,hj',hy]
   refine HW.tree 1 (.light 0 (.light 1 (.light 2 (.light 3 (.light 4 (.light 5 (.light 6 (.light 7 (.light 8 (.light 9 (.light 10 (.light 11 (.light 12 (.light 13 (.light 14 (.light 15 (.heavy 16 [] (.light 17 .leaf) .stop))))))))))))))))) follows (by kernel_rfl) (by kernel_rfl) ?_
   simp +decide only[go_sem,nT,nA,nS,nM,nB,reduceIte,reduceCtorEq,h1,h3,h4,hlt',hx,hj',hy]
   refine zD (zRp p y j l.length (by omega) (by omega) (by omega)) rfl rfl ?_
   cases hb:zA6 p y j l.length with
   | true =>
    simp +decide only[go_sem,nT,nA,nS,nM,nB,reduceIte,reduceCtorEq,h1,h3,h4,hlt',hx,hj',hy]
    refine ⟨_,_,Ghost.refl,l.length-(j+1),by omega,j+1,rfl,by omega,fun q hq=>?_,?_,?_,?_,rfl⟩
    ·rcases Nat.lt_or_ge q j with h | h
     ·exact hall q h
     ·obtain rfl:q=j:=by omega
      rw[hA,hb]
    iterate 2 simp +decide only[go_sem,nB,reduceIte,h1,h3]
    ·simp +decide only[go_sem,nB,reduceIte];rw[w64 (by omega) (by omega)];rfl
   | false =>
    simp +decide only[go_sem,nT,nA,nS,nM,nB,reduceIte,reduceCtorEq,h1,h3,h4,hlt',hx,hj',hy]
    refine hbad ?_
    rw[hT,List.all_eq_false]
    exact ⟨j,List.mem_range.2 hjl,by rw[hA,hb];simp⟩
  ·have hj' : ((j:Int)<(l.length:Int))=False:=by rw[z8];simp[hjl]
   simp +decide only[go_sem,nT,nA,nS,nM,nB,reduceIte,reduceCtorEq,h1,h3,h4,hlt',hx,hj']
   refine ⟨_,_,Ghost.refl,p.thr.length-(i+1),by omega,i+1,rfl,by omega,fun q hq z hz=>?_,?_,?_,rfl⟩
   ·rcases Nat.lt_or_ge q i with h | h
    ·exact hno q h z hz
    ·obtain rfl:q=i:=by omega
     rw[hx] at hz;cases hz
     rw[hT,List.all_eq_true]
     exact fun k hk=>hall k (by have:=List.mem_range.1 hk;omega)
   ·simp +decide only[go_sem,nB,reduceIte,h1]
   ·simp +decide only[go_sem,nB,reduceIte];rw[w64 (by omega) (by omega)];rfl
 ·have hlt' : ((i:Int)<(p.thr.length:Int))=False:=by rw[z8];simp[hlt]
  simp +decide only[go_sem,nT,nA,nS,nM,nB,reduceIte,reduceCtorEq,h1,h3,hlt']
  refine vb (Eq.symm ?_)
  rw[List.all_eq_true]
  intro y hy
  obtain ⟨j,hj⟩:=List.mem_iff_getElem?.1 hy
  exact hno j (by have:=(List.getElem?_eq_some_iff.1 hj).1;omega) y hj
def zEL (p:Prg):Bool:=zEM p || !zCC p || p.thr.any fun l=>decide (40<l.length)
theorem zKM {p:Prg} (h:zEL p=false):RightP p∧z4Z p:=by
 simp only[zEL,Bool.or_eq_false_iff,Bool.not_eq_false',List.any_eq_false] at h
 exact ⟨zFx.1 h.1.2,fun l hl=>by have:=h.2 l hl;simp at this;omega⟩
set_option maxHeartbeats 8000000 in
theorem zS1 (p:Prg):HFn Tryz.prog 45 [prgH p] (.v (.bool (zEL p))):=by
 refine zB (fn:=Tryz.f45) 25 [2] (by kernel_rfl) rfl (by kernel_rfl) (HW.run 400 (by kernel_rfl) ?_)
 simp +decide only[go_sem,nT,nA,nS,nM,nB,reduceIte,reduceCtorEq]
 refine zD (zS2 p) rfl rfl ?_
 cases hg:zEM p with
 | true =>
  simp +decide only[go_sem,nT,nA,nS,nM,nB,reduceIte,reduceCtorEq]
  exact vb (by unfold zEL;rw[hg];rfl)
 | false =>
  have hsm:=zKN hg
  have hl:=hsm.thr
  simp +decide only[go_sem,nT,nA,nS,nM,nB,reduceIte,reduceCtorEq]
  refine zD (zRq p hsm) rfl rfl ?_
  cases hr:zCC p with
  | false =>
   simp +decide only[go_sem,nT,nA,nS,nM,nB,reduceIte,reduceCtorEq]
   exact vb (by unfold zEL;rw[hg,hr];rfl)
  | true =>
   have hG:zEL p=p.thr.any fun l=>decide (40<l.length):=by unfold zEL;rw[hg,hr];rfl
   rw[hG]
   simp +decide only[go_sem,nT,nA,nS,nM,nB,reduceIte,reduceCtorEq]
   refine HW.loopG (fun k T H=>∃i:Nat,k=p.thr.length-i∧i≤p.thr.length∧(∀j,j<i→∀l,p.thr[j]?=some l→¬40<l.length)∧T 1=.pt 0 1 0 0∧T 3=.v (.int .i64 i)∧H=[some ⟨25,2,[[.sl (ints p.init),.sl (thrs p.thr)]]⟩]) p.thr.length ⟨_,_,Ghost.refl,0,rfl,by omega,by simp,rfl,rfl,rfl⟩ ?_
   rintro k T H ⟨i,rfl,hi,hno,h1,h3,rfl⟩
   refine HW.run 200 (by kernel_rfl) ?_
   by_cases hlt:i<p.thr.length
   ·have hlt' : ((i:Int)<(p.thr.length:Int))=True:=by rw[z8];simp[hlt]
    have hx:p.thr[i]?=some p.thr[i]:=List.getElem?_eq_getElem hlt
    generalize p.thr[i]=l at hx
    by_cases c3:40<l.length
    ·have c3' : ((40:Int)<(l.length:Int))=True:=by simp only[eq_iff_iff,iff_true];omega
     simp +decide only[go_sem,nT,nA,nS,nM,nB,reduceIte,reduceCtorEq,h1,h3,hlt',hx,c3']
     exact vb (Eq.symm (List.any_eq_true.2 ⟨l,List.mem_of_getElem? hx,by simpa using c3⟩))
    ·have c3' : ((40:Int)<(l.length:Int))=False:=by simp only[eq_iff_iff,iff_false];omega
     simp +decide only[go_sem,nT,nA,nS,nM,nB,reduceIte,reduceCtorEq,h1,h3,hlt',hx,c3']
     refine ⟨_,_,Ghost.refl,p.thr.length-(i+1),by omega,i+1,rfl,by omega,?_,?_,?_,rfl⟩
     ·intro j hj y hy
      rcases Nat.lt_or_ge j i with h | h
      ·exact hno j h y hy
      ·obtain rfl:j=i:=by omega
       rw[hx] at hy;cases hy;exact c3
     all_goals first | (simp +decide only[go_sem,nB,reduceIte,h1];done) | (simp +decide only[go_sem,nB,reduceIte];rw[w64 (by omega) (by omega)];rfl)
   ·have hlt' : ((i:Int)<(p.thr.length:Int))=False:=by rw[z8];simp[hlt]
    simp +decide only[go_sem,nT,nA,nS,nM,nB,reduceIte,reduceCtorEq,h1,h3,hlt']
    refine vb (Eq.symm ?_)
    rw[List.any_eq_false]
    intro y hy
    obtain ⟨j,hj⟩:=List.mem_iff_getElem?.1 hy
    have:=hno j (by have:=(List.getElem?_eq_some_iff.1 hj).1;omega) y hj
    simpa using this
end Go.Proofs.YtoknohandclcbaaGreat
namespace Go.Proofs.YtoknohandclcbaaGreat
open Go.RowKit
set_option maxRecDepth 8000
abbrev zFX (k:Pck) (t:Thd):HV:=.ag [.v (.int .i64 k.th),.v (.bool k.dr),.v (.int .i64 t.pc),.v (.bool (decide ((0:Int)<(t.buf.length:Int))))]
abbrev badH:HV:=.ag [.v (.int .i64 (-1)),.v (.bool false),.v (.int .i64 0),.v (.bool false)]
def zAX (p:Prg):Sta→List Pck→List (List HV)
 | _,[]=>[]
 | s,k::l=>if (zAA p s k).2=true then [zFX k (thAt s k.th)]::zAX p (zAA p s k).1 l else [[badH]]
theorem zBm (p:Prg) (s:Sta) (k:Pck) (l:List Pck):zAX p s (k::l)=if (zAA p s k).2=true then [zFX k (thAt s k.th)]::zAX p (zAA p s k).1 l else [[badH]]:=rfl
theorem zUy (p:Prg) (s:Sta) (k:Pck) (hp:RightP p) (hs:RightS p s) (hb:∀t∈s.ths,t.buf.length≤100000):HFn Tryz.prog 94 [prgH p,staH s,pckH k] (.tu [staH (zAA p s k).1,.v (.bool (zAA p s k).2)]) :=
 (zQu p s k hp hs hb).shut (by simp only[fzo,fzoL,zAU,zCF])
theorem zID {p:Prg} {s:Sta} {k:Pck} (h:(zAA p s k).2=true):0≤k.th∧k.th<s.ths.length:=by
 unfold zAA at h
 split at h
 ·cases h
 ·rename_i hc;exact Decidable.not_not.1 hc
theorem zHn (p:Prg) (l:List Pck):HFn Tryz.prog 60 [prgH p,.sl (pcks l)] (.fn 92 [.bx 25 2 [.sl (ints p.init),.sl (thrs p.thr)],.bx 32 1 [.sl (pcks l)]]):=by
 refine zB (fn:=Tryz.f60) 6 [4] (by kernel_rfl) rfl (by kernel_rfl) (HW.run 400 (by kernel_rfl) ?_)
 simp +decide only[go_sem,nT,nA,nS,nM,nB,reduceIte,reduceCtorEq]
def z40 (p:Prg) (l:List Pck) (m id:Nat) (J:Nat→Heap→Prop) (k:Nat) (T:Nat→HV) (H:Heap):Prop:=∃i Hq pre s,k=l.length-i∧i≤l.length∧J i Hq∧Hq.length=m∧
 zAX p (zK p) l=pre++zAX p s (l.drop i)∧pre.length=i∧RightS p s∧Few s i∧
 T 0=.yl id∧T 1=.pt m 1 0 0∧T 2=.pt (m+1) 1 0 0∧T 4=.pt (m+2) 1 0 0∧T 12=.sl (pcks l)∧T 13=.v (.int .i64 l.length)∧T 14=.v (.int .i64 i)∧
 H=Hq++[some ⟨25,2,[[.sl (ints p.init),.sl (thrs p.thr)]]⟩,some ⟨32,1,[[.sl (pcks l)]]⟩,some ⟨79,2,[[.sl (ints s.mem),.sl (thds s.ths)]]⟩]
set_option maxHeartbeats 8000000 in
theorem zY0 (p:Prg) (l:List Pck) (hp:RightP p) (hl:l.length≤10000) (Hc:Heap) (n n' : Nat) (hne:n≠n') (hn:Hc[n]?=some (some ⟨25,2,[[.sl (ints p.init),.sl (thrs p.thr)]]⟩)) (hn' : Hc[n']?=some (some ⟨32,1,[[.sl (pcks l)]]⟩)) :
  HSeq Tryz.prog 92 Hc [.pt n 1 0 0,.pt n' 1 0 0] ((Hc.set n none).set n' none) (zAX p (zK p) l):=by
 intro id J K hid hJ hK hY h0
 have hsm:=hp.small
 have hlt' : n' < Hc.length:=(List.getElem?_eq_some_iff.1 hn').1
 refine zB (fn:=Tryz.f92) 50 [] rfl rfl (by kernel_rfl) (HW.ghost ((Ghost.move 1 n 1 0 0 _ rfl hn).trans (Ghost.move 2 n' 1 0 0 ⟨32,1,[[.sl (pcks l)]]⟩ rfl (by
  rw[List.getElem?_append_left (by rw[List.length_set];exact hlt'),List.getElem?_set_ne hne];exact hn'))) (HW.run 60 (by kernel_rfl) ?_))
 have hset:∀B:Heap,(Hc.set n none++B).set n' none=(Hc.set n none).set n' none++B:=fun B=>by
  rw[List.set_append_left _ _ (by rw[List.length_set];exact hlt')]
 rw[hset]
 have hl0:((Hc.set n none).set n' none).length=Hc.length:=by simp
 generalize (Hc.set n none).set n' none=A at h0 hl0⊢
 have hlA:(Hc.set n none++[some (⟨25,2,[[.sl (ints p.init),.sl (thrs p.thr)]]⟩:HObj)]).length=Hc.length+1:=by simp
 have g0:∀B:Heap,getO (A++B) Hc.length=getO B 0:=fun B=>zAV hl0
 have g1:∀(j:Nat) (B:Heap),getO (A++B) (Hc.length+j)=getO B j:=fun j B=>zBM hl0
 have g2:∀(j:Nat) (B:Heap) x,(A++B).set (Hc.length+j) x=A++B.set j x:=fun j B x=>zCH hl0
 simp +decide only[go_sem,nT,nA,nS,nM,nB,reduceIte,reduceCtorEq,g0,g1,g2,hl0,List.append_assoc,hlA,List.length_set,List.length_append]
 refine zD (zRY p (by have:=hsm.thr;omega) (by have:=hp.init;omega)) rfl rfl ?_
 simp +decide only[go_sem,nT,nA,nS,nM,nB,reduceIte,reduceCtorEq,g0,g1,g2,hl0,List.append_assoc,hlA,List.length_set,List.length_append]
 refine HW.loopG (z40 p l Hc.length id J) l.length ⟨_,_,Ghost.refl,0,A,[],zK p,rfl,by omega,h0,hl0,rfl,rfl,zBl,?_,?_,?_,?_,?_,?_,?_,?_,rfl⟩ ?_
 ·intro t ht
  simp only[zK,List.mem_map] at ht
  obtain ⟨_,_,rfl⟩:=ht
  simp
 iterate 6 simp +decide only[go_sem,nB,reduceIte,hl0]
 ·simp +decide only[go_sem,nB,reduceIte];rfl
 rintro k T H ⟨i,Hq,pre,s,rfl,hi,hJi,hlen,hX,hpre,hs,hf,h0,h1,h2,h4,h12,h13,h14,rfl⟩
 refine HW.run 200 (by kernel_rfl) ?_
 have g0:∀B:Heap,getO (Hq++B) Hc.length=getO B 0:=fun B=>zAV hlen
 have g1:∀(j:Nat) (B:Heap),getO (Hq++B) (Hc.length+j)=getO B j:=fun j B=>zBM hlen
 have g2:∀(j:Nat) (B:Heap) x,(Hq++B).set (Hc.length+j) x=Hq++B.set j x:=fun j B x=>zCH hlen
 by_cases hlt:i<l.length
 ·have hlt' : ((i:Int)<(l.length:Int))=True:=by rw[z8];simp[hlt]
  have hx:l[i]?=some l[i]:=List.getElem?_eq_getElem hlt
  have hd:l.drop i=l[i]::l.drop (i+1):=List.drop_eq_getElem_cons hlt
  generalize l[i]=q at hx hd
  simp +decide only[go_sem,nT,nA,nS,nM,nB,reduceIte,reduceCtorEq,h0,h1,h2,h4,h12,h13,h14,g0,g1,g2,hlen,hlt',hx,List.append_assoc,List.length_append]
  refine zD (zUy p s q hp hs (fun t ht=>by have:=hf t ht;omega)) rfl rfl ?_
  rw[hd,zBm] at hX
  cases hw:(zAA p s q).2 with
  | false =>
   rw[hw,if_neg (by simp)] at hX
   have hXi:(zAX p (zK p) l)[i]?=some [badH]:=by rw[hX,List.getElem?_append_right (by omega),hpre,Nat.sub_self];rfl
   have hXl:(zAX p (zK p) l).length=i+1:=by rw[hX,List.length_append,hpre];rfl
   simp +decide only[go_sem,nT,nA,nS,nM,nB,reduceIte,reduceCtorEq,h0,h1,h2,h4,h12,h13,h14,g0,g1,g2,hlen,hw,List.append_assoc,List.length_append]
   refine zCe hlen hid (hJ _ _ hJi).2 rfl (hY _ _ Hq hXi hJi) ?_
   intro c Hq' hc' hlen'
   simp +decide only[go_sem,nT,nA,nS,nM,nB,reduceIte,reduceCtorEq]
   refine zA8 hlen' ?_ ?_
   ·cases c with
    | true=>exact (hJ _ _ hc').2
    | false=>exact hK _ _ hc'
   ·cases c with
    | true=>rw[hXl];exact .inl hc'
    | false=>exact .inr ⟨_,hc'⟩
  | true =>
   rw[hw,if_pos rfl] at hX
   obtain ⟨c1,c2⟩:=zID hw
   have hXi:(zAX p (zK p) l)[i]?=some [zFX q (thAt s q.th)]:=by rw[hX,List.getElem?_append_right (by omega),hpre,Nat.sub_self];rfl
   have hT:s.ths[q.th.toNat]?=some (thAt s q.th):=zF0 ⟨c1,c2⟩
   have c1' : (0≤q.th)=True:=by simp[c1]
   have c2' : (q.th<(s.ths.length:Int))=True:=by simp[c2]
   generalize thAt s q.th=y at hXi hT hX
   simp +decide only[go_sem,nT,nA,nS,nM,nB,reduceIte,reduceCtorEq,h0,h1,h2,h4,h12,h13,h14,g0,g1,g2,hlen,hw,List.append_assoc,List.length_append,hT,c1',c2']
   refine zCe hlen hid (hJ _ _ hJi).2 rfl (hY _ _ Hq hXi hJi) ?_
   intro c Hq' hc' hlen'
   have g0:∀B:Heap,getO (Hq'++B) Hc.length=getO B 0:=fun B=>zAV hlen'
   have g1:∀(j:Nat) (B:Heap),getO (Hq'++B) (Hc.length+j)=getO B j:=fun j B=>zBM hlen'
   have g2:∀(j:Nat) (B:Heap) x,(Hq'++B).set (Hc.length+j) x=Hq'++B.set j x:=fun j B x=>zCH hlen'
   cases c with
   | true =>
    simp only[if_true] at hc'
    simp +decide only[go_sem,nT,nA,nS,nM,nB,reduceIte,reduceCtorEq,h0,h1,h2,h4,h12,h13,h14,g0,g1,g2,hlen',List.append_assoc,List.length_append]
    have t1:∀B:Heap,(Hq'++B).take (Hc.length+3)=Hq'++B.take 3:=fun B=>zCf hlen'
    refine ⟨_,_,Ghost.trunc [0,1,2,4,12,13,14] (Hc.length+3) (by omega) ?_ (zEd hlen' (hJ _ _ hc').2 ?_),l.length-(i+1),by omega,i+1,Hq',pre++[[zFX q y]],(zAA p s q).1,rfl,by omega,hc',hlen',?_,?_,zD0 hp hs,zJW hf,?_,?_,?_,?_,?_,?_,?_,?_⟩
    ·simp +decide only[go_sem,nB,reduceIte,h0,h1,h2,h4,h12,h13,List.all_cons,List.all_nil]
     simp[nm];omega
    ·simp +decide only[go_sem,nB,reduceIte,List.set_cons_succ,List.set_cons_zero,List.take_succ_cons,List.take_zero,List.all_cons,List.all_nil]
    ·rw[hX,List.append_assoc];rfl
    ·simp[hpre]
    iterate 6 simp +decide only[go_sem,nB,reduceIte,h0,h1,h2,h4,h12,h13]
    ·simp +decide only[go_sem,nB,reduceIte];rw[w64 (by omega) (by omega)];rfl
    ·rw[t1];rfl
   | false =>
    simp only[Bool.false_eq_true,if_false] at hc'
    simp +decide only[go_sem,nT,nA,nS,nM,nB,reduceIte,reduceCtorEq,h0,h1,h2,h4,h12,h13,h14,g0,g1,g2,hlen']
    exact zA8 hlen' (hK _ _ hc') (.inr ⟨_,hc'⟩)
 ·have hlt' : ((i:Int)<(l.length:Int))=False:=by rw[z8];simp[hlt]
  have e:i=(zAX p (zK p) l).length:=by
   rw[hX,List.drop_eq_nil_of_le (by omega),List.length_append,hpre];rfl
  simp +decide only[go_sem,nT,nA,nS,nM,nB,reduceIte,reduceCtorEq,h0,h1,h2,h4,h12,h13,h14,g0,hlt']
  exact zA8 hlen (hJ _ _ hJi).2 (.inl (e▸hJi))
end Go.Proofs.YtoknohandclcbaaGreat
namespace Go.Proofs.YtoknohandclcbaaGreat
open Go.RowKit
set_option maxRecDepth 8000
theorem zJZ:∀(thr:List (List Stp)) (t0 k:Nat) (w:Nat×Nat),(zCG t0 thr)[k]?=some w→∃t l,thr[t]?=some l∧w.1=t0+t∧w.2<l.length∧k=z7 thr t+w.2
 | [],_,k,w,h=>by simp[zCG] at h
 | x::r,t0,k,w,h=>by
  unfold zCG at h
  rcases Nat.lt_or_ge k x.length with hk | hk
  ·rw[List.getElem?_append_left (by simpa using hk),List.getElem?_map,List.getElem?_range hk] at h
   simp only[Option.map_some,Option.some.injEq] at h
   subst h
   exact ⟨0,x,rfl,rfl,hk,by simp[z7]⟩
  ·rw[List.getElem?_append_right (by simpa using hk),List.length_map,List.length_range] at h
   obtain ⟨t,l,h1,h2,h3,h4⟩:=zJZ r (t0+1) (k-x.length) w h
   exact ⟨t+1,l,by simpa using h1,by omega,h3,by rw[zCW];omega⟩
theorem zN2 {thr:List (List Stp)} {j:Nat} {x:List HV} (h:(zIF thr)[j]?=some x):∃t a l,thr[t]?=some l∧a<l.length∧j=z7 thr t+a∧(zCG 0 thr)[j]?=some (t,a)∧x=[.v (.int .i64 (j:Int)),.ag [.v (.int .i64 (t:Int)),.v (.int .i64 (a:Int))]]:=by
 unfold zIF at h
 rw[List.getElem?_map,List.getElem?_zipIdx] at h
 cases hw:(zCG 0 thr)[j]? with
 | none=>rw[hw] at h;cases h
 | some w =>
  rw[hw] at h
  simp only[Option.map_some,Option.some.injEq,Nat.zero_add] at h
  obtain ⟨t,l,h1,h2,h3,h4⟩:=zJZ thr 0 j w hw
  obtain ⟨w1,w2⟩:=w
  simp only[Nat.zero_add] at h2 h3 h4 h
  subst h2
  exact ⟨w1,w2,l,h1,h3,h4,rfl,h.symm⟩
set_option maxHeartbeats 8000000 in
theorem zN1 (p:Prg) (th at_:Int) (hp:SmallP p):HFn Tryz.prog 61 [prgH p,.v (.int .i64 th),.v (.int .i64 at_)] (.v (.int .i64 (numS p th at_))):=by
 refine zU (fn:=Tryz.f61) 19 [.cell 6 3] (by kernel_rfl) rfl rfl (by kernel_rfl) (HW.run 400 (by kernel_rfl) ?_)
 simp +decide only[go_sem,nT,nA,nS,nM,nB,reduceIte,reduceCtorEq]
 refine zD (zV4 p) rfl rfl ?_
 simp +decide only[go_sem,nT,nA,nS,nM,nB,reduceIte,reduceCtorEq]
 refine HW.rangeFunc rfl (by decide) rfl (zIF p.thr) [some ⟨25,2,[[.sl (ints p.init),.sl (thrs p.thr)]]⟩,some ⟨3,1,[[.v (.int .i64 th)]]⟩,some ⟨3,1,[[.v (.int .i64 at_)]]⟩,some ⟨3,1,[[.v (.int .i64 0)]]⟩,none]
  (fun j Hi=>Hi=[some ⟨25,2,[[.sl (ints p.init),.sl (thrs p.thr)]]⟩,some ⟨3,1,[[.v (.int .i64 th)]]⟩,some ⟨3,1,[[.v (.int .i64 at_)]]⟩,some ⟨3,1,[[.v (.int .i64 0)]]⟩,none]∧∀k,k<j→∀w,(zCG 0 p.thr)[k]?=some w→¬((w.1:Int)=th∧(w.2:Int)=at_))
  (fun c Hi=>c=.ret∧Hi=[some ⟨25,2,[[.sl (ints p.init),.sl (thrs p.thr)]]⟩,some ⟨3,1,[[.v (.int .i64 th)]]⟩,some ⟨3,1,[[.v (.int .i64 at_)]]⟩,some ⟨3,1,[[.v (.int .i64 (numS p th at_))]]⟩,none])
  (SubH.spec (And.intro rfl (And.intro rfl (And.intro rfl (And.intro rfl trivial))))) ?_ (fun o=>zRR p hp _ 4 rfl) ⟨rfl,by simp⟩ ?_ ?_ ?_
 ·intro x hx
  obtain ⟨j,hj⟩:=List.mem_iff_getElem?.1 hx
  obtain ⟨t,a,l,_,_,_,_,rfl⟩:=zN2 hj
  exact ⟨rfl,rfl⟩
 ·rintro j x Hi hx - ⟨rfl,hno⟩
  obtain ⟨t,a,l,e1,e2,e3,e4,rfl⟩:=zN2 hx
  refine HW.run 60 (by kernel_rfl) ?_
  simp +decide only[go_sem,nT,nA,nS,nM,nB,reduceIte,reduceCtorEq]
  refine HW.run 60 (by kernel_rfl) ?_
  by_cases hc:(t:Int)=th∧(a:Int)=at_
  ·obtain ⟨rfl,rfl⟩:=hc
   have hl:numS p t a=(j:Int):=by
    unfold numS
    rw[Int.toNat_natCast,e1,Option.getD_some,if_pos ⟨by omega,by have:=(List.getElem?_eq_some_iff.1 e1).1;omega,by omega,by omega⟩,e3]
    omega
   simp +decide only[go_sem,nT,nA,nS,nM,nB,reduceIte,reduceCtorEq]
   exact ⟨_,_,Ghost.trunc [] 5 (by omega) rfl rfl,rfl,by rw[hl];rfl⟩
  ·have hc' : ((t:Int)=th→(a:Int)=at_→False)=True:=by simp only[eq_iff_iff,iff_true];exact fun h1 h2=>hc ⟨h1,h2⟩
   simp +decide only[go_sem,nT,nA,nS,nM,nB,reduceIte,reduceCtorEq]
   refine ⟨fun hh=>?_,fun _=>⟨_,_,Ghost.trunc [] 5 (by omega) rfl rfl,rfl,rfl,fun k hk w hw=>?_⟩⟩
   ·rw[Bool.and_eq_true,decide_eq_true_eq,decide_eq_true_eq] at hh
    exact absurd hh hc
   ·rcases Nat.lt_or_ge k j with h | h
    ·exact hno k h w hw
    ·obtain rfl:k=j:=by omega
     rw[e4] at hw;cases hw;exact hc
 ·rintro Hf - ⟨rfl,hno⟩
  have hl:numS p th at_ = -1:=by
   unfold numS
   rw[if_neg]
   rintro ⟨h1,h2,h3,h4⟩
   have e1:p.thr[th.toNat]?=some (p.thr[th.toNat]'(by omega)):=List.getElem?_eq_getElem (by omega)
   rw[e1,Option.getD_some] at h4
   have e2:=zE4 p.thr 0 th.toNat at_.toNat _ e1 (by omega)
   have hlt:=(List.getElem?_eq_some_iff.1 e2).1
   rw[zCY,←zFE] at hlt
   refine hno _ hlt _ e2 ⟨?_,?_⟩
   ·simp only[Nat.zero_add];omega
   ·show ((at_.toNat:Nat):Int)=at_;omega
  simp +decide only[go_sem,nT,nA,nS,nM,nB,reduceIte,reduceCtorEq,hl]
 ·rintro c Hf - ⟨rfl,rfl⟩
  unfold XQ
  simp +decide only[go_sem,nT,nA,nS,nM,nB,reduceIte,reduceCtorEq]
end Go.Proofs.YtoknohandclcbaaGreat
namespace Go.Proofs.YtoknohandclcbaaGreat
open Go.RowKit
set_option maxRecDepth 8000
theorem zLH {p:Prg} {s0 s:Sta} {l r:List Pck} {pre:List (List HV)} {j:Nat} {x:List HV} (h:zAX p s0 l=pre++zAX p s r) (hj:pre.length=j) (hx:(zAX p s0 l)[j]?=some x) :
  ∃k r',r=k::r'∧(((zAA p s k).2=true∧x=[zFX k (thAt s k.th)]∧zAX p s0 l=(pre++[x])++zAX p (zAA p s k).1 r')∨((zAA p s k).2=false∧x=[badH])):=by
 rw[h,List.getElem?_append_right (by omega),hj,Nat.sub_self] at hx
 cases r with
 | nil=>simp[zAX] at hx
 | cons k r' =>
  refine ⟨k,r',rfl,?_⟩
  rw[zBm] at hx h
  cases hw:(zAA p s k).2 with
  | true =>
   rw[hw,if_pos rfl] at hx h
   simp only[List.getElem?_cons_zero,Option.some.injEq] at hx
   subst hx
   exact .inl ⟨rfl,rfl,by rw[h,List.append_assoc];rfl⟩
  | false =>
   rw[hw,if_neg (by simp)] at hx
   simp only[List.getElem?_cons_zero,Option.some.injEq] at hx
   exact .inr ⟨rfl,hx.symm⟩
theorem zHs {p:Prg} {s0 s:Sta} {l r:List Pck} {pre:List (List HV)} (h:zAX p s0 l=pre++zAX p s r) (hj:pre.length=(zAX p s0 l).length):r=[]:=by
 rw[h,List.length_append] at hj
 cases r with
 | nil=>rfl
 | cons k r' =>
  rw[zBm] at hj
  split at hj <;> simp at hj
theorem zEz {p:Prg}:∀{l:List Pck} {s:Sta} {x:List HV},x∈zAX p s l→(∃k t,x=[zFX k t])∨x=[badH]
 | [],s,x,h=>by simp[zAX] at h
 | k::l,s,x,h=>by
  rw[zBm] at h
  split at h
  ·rcases List.mem_cons.1 h with rfl | h
   ·exact .inl ⟨_,_,rfl⟩
   ·exact zEz h
  ·simp at h;exact .inr h
theorem zGk {p:Prg}:∀(l:List Pck) (s:Sta),(zAX p s l).length≤l.length
 | [],s=>by simp[zAX]
 | k::l,s=>by
  have:=zGk (p:=p) l (zAA p s k).1
  rw[zBm]
  split <;> simp <;> omega
abbrev raiH (p:Prg) (g:List Int) (a:List HV) (b:Bool) (n:Nat) (out:List Pck):Heap :=
  [some ⟨25,2,[[.sl (ints p.init),.sl (thrs p.thr)]]⟩,some ⟨32,1,[a]⟩,some ⟨4,1,[[.v (.bool b)]]⟩,some (mapI (zDO g)),some ⟨93,1,[[.mp 3]]⟩,
   some ⟨32,1,[[.hd 8 0 n]]⟩,none,none,some ⟨74,2,pcks out⟩]
set_option maxHeartbeats 8000000 in
theorem zQ2 (p:Prg) (g:List Int) (l:List Pck) (hp:RightP p) (hg:g.length≤10000) (hl:l.length≤10000):HFn Tryz.prog 34 [prgH p,.sl (ints g),.sl (pcks l)]
  (.tu [zSF ((zAa p g (zK p) [] l).getD []),.v (.bool (zAa p g (zK p) [] l).isSome)]):=by
 refine HCalls.conv (Q:=fun x _=>x=.tu [zSF ((zAa p g (zK p) [] l).getD []),.v (.bool (zAa p g (zK p) [] l).isSome)]∨(zAa p g (zK p) [] l=none∧x=.tu [.v (.slice none 0 0),.v (.bool false)])) ?_ ?_
 rotate_left
 ·rintro x H' (rfl | ⟨h,rfl⟩)
  ·exact ⟨_,rfl,.inl rfl⟩
  ·rw[h];exact ⟨_,rfl,.inr ⟨rfl,Conv.nilTuOw _ _ _⟩⟩
 have hsm:=hp.small
 refine zU (fn:=Tryz.f34) 52 [.cell 6 32,.cell 7 4] (by kernel_rfl) rfl rfl (by kernel_rfl) (HW.run 400 (by kernel_rfl) ?_)
 simp +decide only[go_sem,nT,nA,nS,nM,nB,reduceIte,reduceCtorEq]
 refine zD (zUK g (by omega)) rfl rfl ?_
 simp +decide only[go_sem,nT,nA,nS,nM,nB,reduceIte,reduceCtorEq]
 refine zD (zHn p l) rfl rfl ?_
 simp +decide only[go_sem,nT,nA,nS,nM,nB,reduceIte,reduceCtorEq]
 refine HW.ghost ((Ghost.cell 5 0 0 (.ow 74 2 []) rfl rfl rfl rfl (Conv.nilOw _ _) (by simp)).trans (Ghost.open 5 0 0)) ?_
 simp +decide only[go_sem,nT,nA,nS,nM,nB,reduceIte,reduceCtorEq]
 refine HW.rangeFunc rfl (by decide) rfl (zAX p (zK p) l) (raiH p g [.v (.slice none 0 0)] false 0 [])
  (fun j Hi=>∃pre s out r,zAX p (zK p) l=pre++zAX p s r∧pre.length=j∧out.length≤2*j∧j≤l.length∧zAa p g (zK p) [] l=zAa p g s out r∧Hi=raiH p g [.v (.slice none 0 0)] false out.length out)
  (fun c Hi=>c=.ret∧zAa p g (zK p) [] l=none∧∃n out,Hi=raiH p g [.v (.slice none 0 0)] false n out)
  ?_ ?_ (fun o=>zY0 p l hp hl _ 6 7 (by omega) rfl rfl) ⟨[],zK p,[],l,rfl,rfl,by simp,by simp,rfl,rfl⟩ ?_ ?_ ?_
 ·refine ⟨rfl,fun j o hj=>?_⟩
  rcases j with _ | _ | _ | _ | _ | _ | _ | _ | _ | j <;> simp at hj⊢<;> exact hj
 ·intro x hx
  rcases zEz hx with ⟨k,t,rfl⟩ | rfl <;> exact ⟨rfl,rfl⟩
 ·rintro j x Hi hx - ⟨pre,s,out,r,hX,hpre,hout,hjl,hR,rfl⟩
  obtain ⟨k,r',rfl,hcase⟩:=zLH hX hpre hx
  have hlen:=zGk (p:=p) l (zK p)
  have hj1:j+1≤l.length:=by
   have:=(List.getElem?_eq_some_iff.1 hx).1
   omega
  refine HW.run 60 (by kernel_rfl) ?_
  rcases hcase with ⟨hw,rfl,hX'⟩ | ⟨hw,rfl⟩
  ·have hthr:=(zID hw).1
   have c0:(k.th<0)=False:=by simp only[eq_iff_iff,iff_false];omega
   have hR' : zAa p g s out (k::r')=(if k.dr=false∧hasB g (numS p k.th (thAt s k.th).pc)=true then (if (thAt s k.th).buf≠[] then none else zAa p g (zAA p s k).1 (out++[⟨k.th,false⟩]++[k]) r') else zAa p g (zAA p s k).1 (out++[k]) r'):=by
    rw[zAa,if_pos hw]
   rw[hR'] at hR
   generalize (zAA p s k).1=s' at hR hX'
   generalize thAt s k.th=y at hR hX' hx
   have hbuf:(0<(y.buf.length:Int))=(y.buf≠[]):=by
    cases y.buf with
    | nil=>simp
    | cons a b=>simp only[List.length_cons,eq_iff_iff];constructor <;> intro <;> first | simp | omega
   simp +decide only[go_sem,nT,nA,nS,nM,nB,reduceIte,reduceCtorEq,c0]
   refine HW.run 100 (by kernel_rfl) ?_
   simp +decide only[go_sem,nT,nA,nS,nM,nB,reduceIte,reduceCtorEq,c0]
   cases hdr:k.dr with
   | true =>
    rw[if_neg (by simp[hdr])] at hR
    refine HW.tree 1 (.light 0 (.light 1 (.light 2 (.light 3 (.light 4 (.light 5 (.light 6 (.light 7 (.light 8 (.light 9 (.light 10 (.light 11 (.heavy 12 [5] (.heavy 13 [] (.light 14 (.light 15 .leaf)) .stop) .stop))))))))))))) follows (by kernel_rfl) (by kernel_rfl) ?_
    simp +decide only[go_sem,nT,nA,nS,nM,nB,reduceIte,reduceCtorEq,hdr]
    repeat (with_reducible refine And.intro ?_ ?_;·(with_reducible and_intros) <;> omega)
    refine ⟨_,_,Ghost.trunc [] 9 (by omega) rfl ?_,rfl,pre++[[zFX k y]],s',out++[k],r',hX',by simp[hpre],by simp;omega,hj1,hR,?_⟩
    ·simp +decide only[go_sem,nB,reduceIte]
    ·simp[←zJq,prow,hdr]
   | false =>
    refine HW.tree 1 (.light 0 (.light 1 (.light 2 (.light 3 (.light 4 (.light 5 (.light 6 (.light 7 (.light 8 (.light 9 (.light 10 (.light 11 (.heavy 12 [5] (.heavy 13 [] (.light 14 (.light 15 .leaf)) .stop) .stop))))))))))))) follows (by kernel_rfl) (by kernel_rfl) ?_
    simp +decide only[go_sem,nT,nA,nS,nM,nB,reduceIte,reduceCtorEq,hdr]
    refine zD (zN1 p k.th y.pc hsm) rfl rfl ?_
    have hpos:=zHE g (numS p k.th y.pc)
    by_cases hin:hasB g (numS p k.th y.pc)=true
    ·have hpos' : ((0:Int)<getM (zDO g) (numS p k.th y.pc))=True:=by rw[hpos];simpa [hasB] using hin
     rw[if_pos ⟨hdr,hin⟩] at hR
     by_cases hb:y.buf=[]
     ·rw[if_neg (by simp[hb])] at hR
      have hbuf' : ((0:Int)<(y.buf.length:Int))=False:=by rw[hbuf];simp[hb]
      simp +decide only[go_sem,nT,nA,nS,nM,nB,reduceIte,reduceCtorEq,hdr,hpos',hbuf']
      repeat (with_reducible refine And.intro ?_ ?_;·(with_reducible and_intros) <;> omega)
      refine ⟨_,_,Ghost.trunc [] 9 (by omega) rfl ?_,rfl,pre++[[zFX k y]],s',out++[⟨k.th,false⟩]++[k],r',hX',by simp[hpre],by simp;omega,hj1,hR,?_⟩
      ·simp +decide only[go_sem,nB,reduceIte]
      ·simp[pcks,prow,hdr]
     ·rw[if_pos hb] at hR
      have hbuf' : ((0:Int)<(y.buf.length:Int))=True:=by rw[hbuf];simp[hb]
      simp +decide only[go_sem,nT,nA,nS,nM,nB,reduceIte,reduceCtorEq,hdr,hpos',hbuf']
      refine ⟨_,_,Ghost.trunc [] 9 (by omega) rfl ?_,rfl,hR,out.length,out,rfl⟩
      simp +decide only[go_sem,nB,reduceIte]
    ·have hpos' : ((0:Int)<getM (zDO g) (numS p k.th y.pc))=False:=by rw[hpos];simpa [hasB] using hin
     rw[if_neg (fun h=>hin h.2)] at hR
     simp +decide only[go_sem,nT,nA,nS,nM,nB,reduceIte,reduceCtorEq,hdr,hpos']
     repeat (with_reducible refine And.intro ?_ ?_;·(with_reducible and_intros) <;> omega)
     refine ⟨_,_,Ghost.trunc [] 9 (by omega) rfl ?_,rfl,pre++[[zFX k y]],s',out++[k],r',hX',by simp[hpre],by simp;omega,hj1,hR,?_⟩
     ·simp +decide only[go_sem,nB,reduceIte]
     ·simp[←zJq,prow,hdr]
  ·simp +decide only[go_sem,nT,nA,nS,nM,nB,reduceIte,reduceCtorEq]
   refine HW.run 100 (by kernel_rfl) ?_
   simp +decide only[go_sem,nT,nA,nS,nM,nB,reduceIte,reduceCtorEq]
   have hR' : zAa p g (zK p) [] l=none:=by rw[hR,zAa,if_neg (by simp[hw])]
   refine ⟨_,_,Ghost.trunc [] 9 (by omega) rfl ?_,rfl,hR',out.length,out,rfl⟩
   simp +decide only[go_sem,nB,reduceIte]
 ·rintro Hf - ⟨pre,s,out,r,hX,hpre,hout,hjl,hR,rfl⟩
  obtain rfl:=zHs hX hpre
  simp +decide only[go_sem,nT,nA,nS,nM,nB,reduceIte,reduceCtorEq]
  rw[hR]
  exact .inl rfl
 ·rintro c Hf - ⟨rfl,hn,n,out,rfl⟩
  unfold XQ
  simp +decide only[go_sem,nT,nA,nS,nM,nB,reduceIte,reduceCtorEq]
  exact .inr hn
end Go.Proofs.YtoknohandclcbaaGreat
namespace Go.Proofs.YtoknohandclcbaaGreat
open Go.RowKit
set_option maxRecDepth 8000
def insS (n:Int):List Int→List Int
 | []=>[n]
 | x::l=>if n=x then x::l else if n<x then n::x::l else x::insS n l
theorem zGC (n:Int):∀(l acc:List Int),l.foldl (putS n) (acc,true)=(acc++l,true)
 | [],acc=>by simp
 | x::l,acc=>by
  have:putS n (acc,true) x=(acc++[x],true):=by unfold putS;rw[if_neg (by simp)]
  rw[List.foldl_cons,this,zGC n l];simp
theorem zH6 (n:Int):∀(l acc:List Int),(if (l.foldl (putS n) (acc,false)).2=true then (l.foldl (putS n) (acc,false)).1 else (l.foldl (putS n) (acc,false)).1++[n])=acc++insS n l
 | [],acc=>by simp[insS]
 | x::l,acc=>by
  rw[List.foldl_cons]
  unfold insS
  by_cases h1:n=x
  ·have:putS n (acc,false) x=(acc++[x],true):=by unfold putS;rw[if_pos ⟨rfl,by omega⟩,if_pos h1]
   rw[this,zGC,if_pos rfl,if_pos h1];simp
  ·by_cases h2:n<x
   ·have:putS n (acc,false) x=(acc++[n]++[x],true):=by unfold putS;rw[if_pos ⟨rfl,by omega⟩,if_neg h1]
    rw[this,zGC,if_pos rfl,if_neg h1,if_pos h2];simp
   ·have:putS n (acc,false) x=(acc++[x],false):=by unfold putS;rw[if_neg (by simp;omega)]
    rw[this,zH6 n l,if_neg h1,if_neg h2];simp
theorem zWE (l:List Int) (n:Int):putB l n=insS n l:=by
 have:=zH6 n l []
 unfold putB
 rw[this];rfl
theorem zNm {n m:Int}:∀{l:List Int},m∈insS n l↔m=n∨m∈l
 | []=>by simp[insS]
 | x::l=>by
  unfold insS
  split
  ·rename_i h;simp[h]
  ·split
   ·simp
   ·simp only[List.mem_cons,zNm (l:=l)]
    constructor
    ·rintro (h | h | h)
     ·exact .inr (.inl h)
     ·exact .inl h
     ·exact .inr (.inr h)
    ·rintro (h | h | h)
     ·exact .inr (.inl h)
     ·exact .inl h
     ·exact .inr (.inr h)
theorem zGP {n:Int}:∀{l:List Int},l.Pairwise (·< ·)→(insS n l).Pairwise (·< ·)
 | [],_=>by simp[insS]
 | x::l,h=>by
  obtain ⟨h1,h2⟩:=List.pairwise_cons.1 h
  unfold insS
  split
  ·exact h
  ·rename_i hne
   split
   ·rename_i hlt
    refine List.pairwise_cons.2 ⟨fun y hy=>?_,h⟩
    rcases List.mem_cons.1 hy with rfl | hy
    ·exact hlt
    ·have:=h1 y hy;omega
   ·refine List.pairwise_cons.2 ⟨fun y hy=>?_,zGP h2⟩
    rcases zNm.1 hy with rfl | hy
    ·omega
    ·exact h1 y hy
theorem zKI {n:Int}:∀{l:List Int},l.Pairwise (·< ·)→(insS n l).Perm (if n∈l then l else n::l)
 | [],_=>by simp[insS]
 | x::l,h=>by
  obtain ⟨h1,h2⟩:=List.pairwise_cons.1 h
  unfold insS
  by_cases e:n=x
  ·rw[if_pos e,if_pos (by simp[e])]
  ·rw[if_neg e]
   by_cases hl:n<x
   ·rw[if_pos hl,if_neg]
    intro hm
    rcases List.mem_cons.1 hm with hm | hm
    ·exact e hm
    ·have:=h1 n hm;omega
   ·rw[if_neg hl]
    have ih:=zKI (n:=n) h2
    by_cases hm:n∈l
    ·rw[if_pos hm] at ih
     rw[if_pos (List.mem_cons_of_mem _ hm)]
     exact ih.cons x
    ·rw[if_neg hm] at ih
     rw[if_neg (fun h=>by
      rcases List.mem_cons.1 h with h | h
      ·exact e h
      ·exact hm h)]
     exact (ih.cons x).trans (.swap n x l)
theorem zDs {α:Type} [DecidableEq α] (k:α) (v:Int):∀kv:List (α×Int),(setM kv k v).map (·.1)=if k∈kv.map (·.1) then kv.map (·.1) else kv.map (·.1)++[k]
 | []=>by simp[setM]
 | e::r=>by
  have ih:=zDs k v r
  unfold setM
  by_cases h:k=e.1
  ·rw[if_pos h,if_pos (by simp[h])];simp[h]
  ·rw[if_neg h]
   simp only[List.map_cons,ih,List.mem_cons,h,false_or]
   split <;> simp
structure Rise (kv:List (Int×Int)) (out:List Int):Prop where
 rise:out.Pairwise (·< ·)
 perm:out.Perm (kv.map (·.1))
theorem Rise.nodup {kv:List (Int×Int)} {out:List Int} (h:Rise kv out):(kv.map (·.1)).Nodup:=h.perm.nodup_iff.1 (h.rise.imp fun h=>by omega)
theorem Rise.put {kv:List (Int×Int)} {out:List Int} (h:Rise kv out) (n v:Int):Rise (setM kv n v) (putB out n):=by
 rw[zWE]
 refine ⟨zGP h.rise,(zKI h.rise).trans ?_⟩
 rw[zDs]
 have hm:n∈out↔n∈kv.map (·.1):=h.perm.mem_iff
 by_cases hn:n∈out
 ·rw[if_pos hn,if_pos (hm.1 hn)];exact h.perm
 ·rw[if_neg hn,if_neg (fun h'=>hn (hm.2 h'))]
  exact (h.perm.cons n).trans (List.perm_append_singleton n _).symm
theorem zOo {kv:List (Int×Int)} {n v a b:Int} (h:∀e∈kv,a≤e.1∧e.1≤b) (hn:a≤n∧n≤b):∀e∈setM kv n v,a≤e.1∧e.1≤b:=by
 intro e he
 have:e.1∈(setM kv n v).map (·.1):=List.mem_map.2 ⟨e,he,rfl⟩
 rw[zDs] at this
 have key:e.1=n∨e.1∈kv.map (·.1):=by
  split at this
  ·exact .inr this
  ·rcases List.mem_append.1 this with h | h
   ·exact .inr h
   ·exact .inl (List.mem_singleton.1 h)
 rcases key with hk | hk
 ·rw[hk];exact hn
 ·obtain ⟨e',he',e1⟩:=List.mem_map.1 hk
  rw[←e1];exact h e' he'
theorem zLi {α:Type} [DecidableEq α] (k:α) (v:Int) (kv:List (α×Int)):(setM kv k v).length≤kv.length+1:=by
 have:=congrArg List.length (zDs k v kv)
 rw[List.length_map] at this
 rw[this]
 split <;> simp
theorem zPU (p:Prg) (hp:SmallP p) (t a:Int):-1≤numS p t a∧numS p t a≤3000:=by
 unfold numS
 split
 ·rename_i h
  obtain ⟨h1,h2,h3,h4⟩:=h
  have:=zDo hp t.toNat
  have hl:=hp.thr
  have hx:((p.thr[t.toNat]?).getD []).length≤300:=by
   cases e:p.thr[t.toNat]? with
   | none=>simp
   | some l=>exact hp.len l (List.mem_of_getElem? e)
  omega
 ·omega
end Go.Proofs.YtoknohandclcbaaGreat
