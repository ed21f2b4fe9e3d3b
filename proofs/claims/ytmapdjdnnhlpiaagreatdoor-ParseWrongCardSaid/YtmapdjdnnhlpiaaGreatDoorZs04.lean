/- Parts of the proof: HiR, HiZ. -/
import Derived.Test.YtmapdjdnnhlpiaaGreatDoorZs03
import Derived.OrdersIn
set_option linter.unusedSectionVars false
set_option linter.unusedVariables false
set_option linter.unusedSimpArgs false
namespace Go.Proofs.YtmapdjdnnhlpiaaGreatDoor
open Go.RowKit
inductive Item where
 | code (c:Code)
 | endB (l:Nat)
 | ops (all l:List Oper)
 | quiet (all l:List Oper)
def dropTo (l:Nat):List Item→Option (List Item)
 | []=>none
 | .endB l'::r=>if l=l' then some r else dropTo l r
 | _::r=>dropTo l r
abbrev KS:=(Nat→HV)→Heap→Prop
def Kx (k:List Item→KS) (Q:Exit→KS) (r:List Item):Exit→KS
 | .normal=>k r
 | .exit l=>match dropTo l r with | some r'=>k r' | none=>Q (.exit l)
 | e=>Q e
def exR (k:List Item→KS) (res:Res) (all:List Oper) (d:Option Nat) (l:List Oper) (r:List Item) (T:Nat→HV):Prop :=
 onR res fun x H'=>k (.ops all l::r) (updO T d x) H'
def callX (k:List Item→KS) (P:Program) (fid:Nat) (H:Heap) (args:List HV) (all:List Oper) (d:Option Nat) (l:List Oper) (r:List Item) (T:Nat→HV):Prop :=
 ∃Q,HCalls P fid H args Q∧∀x H',Q x H'→H'.length=H.length→k (.ops all l::r) (updO T d (nameV x H').1) (nameV x H').2
def yieldX (k:List Item→KS) (P:Program) (id:Nat) (H:Heap) (args:List HV) (all:List Oper) (d:Option Nat) (l:List Oper) (r:List Item) (T:Nat→HV):Prop :=
 ∃Kb,HYield P id H args Kb∧∀b H',Kb b H'→H'.length=H.length→k (.ops all l::r) (updO T d (.v (.bool b))) H'
def exCall (k:List Item→KS) (P:Program) (f:HV) (H:Heap) (args:List HV) (all:List Oper) (d:Option Nat) (l:List Oper) (r:List Item) (T:Nat→HV):Prop :=
 match f with
 | .fn fid caps=>callX k P (fnF fid) H (fnA fid .any args caps) all d l r T
 | .yl id=>yieldX k P id H args all d l r T
 | _=>False
def exInv2 (k:List Item→KS) (P:Program) (f:Option Nat) (H:Heap) (args:List HV) (all:List Oper) (d:Option Nat) (l:List Oper) (r:List Item) (T:Nat→HV):Prop :=
 match f with
 | some fid=>callX k P fid H args all d l r T
 | none=>False
def exInv (k:List Item→KS) (P:Program) (rv:HV) (name:String) (H:Heap) (args:List HV) (all:List Oper) (d:Option Nat) (l:List Oper) (r:List Item) (T:Nat→HV):Prop :=
 match rv with
 | .ic t x=>exInv2 k P (methodFn P t name) H (x::args) all d l r T
 | _=>False
def exO (k:List Item→KS) (P:Program) (all:List Oper) (d:Option Nat) (op:Op) (l:List Oper) (r:List Item) (T:Nat→HV) (H:Heap):Prop :=
 match op with
 | .call { callee:=.value f,args:=args,argTypes:=_ }=>exCall k P (hev T f) H (args.toList.map (hev T)) all d l r T
 | .call { callee:=.invoke rv name,args:=args,argTypes:=_ }=>exInv k P (hev T rv) name H (args.toList.map (hev T)) all d l r T
 | op=>exR k (rop P T H op) all d l r T
def dstAt (all:List Oper) (j:Nat):Option Nat:=(all[j]?).bind (·.dst)
def exB2 (k:List Item→KS) (P:Program) (v:HV) (t:Nat) (b:Bool) (all:List Oper) (d:Option Nat) (op:Op) (l:List Oper) (r:List Item) (T:Nat→HV) (H:Heap):Prop :=
 match v with
 | .v (.bool c)=>(c=b→exO k P all d op l r T H)∧(c=(!b)→k (.ops all l::r) (updO T d (.v undef)) H)
 | .v (.tuple _)=>k (.ops all l::r) (updO T d (.v undef)) H
 | _=>False
def exB (k:List Item→KS) (P:Program) (t:Option Nat) (b:Bool) (all:List Oper) (d:Option Nat) (op:Op) (l:List Oper) (r:List Item) (T:Nat→HV) (H:Heap):Prop :=
 match t with
 | some t=>exB2 k P (T t) t b all d op l r T H
 | none=>False
def exG (k:List Item→KS) (P:Program) (all:List Oper) (o:Oper) (l:List Oper) (r:List Item) (T:Nat→HV) (H:Heap):Prop :=
 match o.guard with
 | none=>exO k P all o.dst o.op l r T H
 | some (j,b)=>exB k P (dstAt all j) b all o.dst o.op l r T H
def exRq (k:List Item→KS) (res:Res) (all:List Oper) (d:Option Nat) (l:List Oper) (r:List Item) (T:Nat→HV) (H:Heap):Prop :=
 onR res fun x _=>k (.quiet all l::r) (updO T d x) H
abbrev HFn (P:Program) (f:FuncId) (args:List HV) (R:HV):Prop:=HCalls P f [] args (fun r _=>r=R)
def LendOk (n:Nat) (H:Heap) (args args' : List HV) (R:HV):Prop:=(args.map (fz n H)=args'∧nz R=true)∨(args=args'∧nmL 0 args=true)
def callQ (k:List Item→KS) (P:Program) (fid:Nat) (H:Heap) (args:List HV) (all:List Oper) (d:Option Nat) (l:List Oper) (r:List Item) (T:Nat→HV):Prop :=
 ∃n R args',HFn P fid args' R∧LendOk n H args args' R∧k (.quiet all l::r) (updO T d (fzo R)) H
def rbuildSliceF (P:Program) (T:Nat→HV) (H:Heap) (t:TypeId) (len:Nat) (parts:List (Nat×Operand)):Res:=bindO (elemTI P t 3) fun e =>
 rv H (len=parts.length∧seqParts 0 parts=true∧e.2.2.size≠0∧len*e.2.2.size≤16777216∧(zcells e.2.2).isSome=true∧PartsOk T e.2.2.size parts) (.sl (parts.map fun p=>fzoL (cellsH (hev T p.2))))
def exCallQ (k:List Item→KS) (P:Program) (f:HV) (H:Heap) (args:List HV) (all:List Oper) (d:Option Nat) (l:List Oper) (r:List Item) (T:Nat→HV):Prop :=
 match f with
 | .fn fid caps=>callQ k P (fnF fid) H (fnA fid .any args caps) all d l r T
 | _=>False
def exInvQ2 (k:List Item→KS) (P:Program) (f:Option Nat) (H:Heap) (args:List HV) (all:List Oper) (d:Option Nat) (l:List Oper) (r:List Item) (T:Nat→HV):Prop :=
 match f with
 | some fid=>callQ k P fid H args all d l r T
 | none=>False
def exInvQ (k:List Item→KS) (P:Program) (rv:HV) (name:String) (H:Heap) (args:List HV) (all:List Oper) (d:Option Nat) (l:List Oper) (r:List Item) (T:Nat→HV):Prop :=
 match rv with
 | .ic t x=>exInvQ2 k P (methodFn P t name) H (x::args) all d l r T
 | _=>False
def exOq (k:List Item→KS) (P:Program) (all:List Oper) (d:Option Nat) (op:Op) (l:List Oper) (r:List Item) (T:Nat→HV) (H:Heap):Prop :=
 match op with
 | .call { callee:=.value f,args:=args,argTypes:=_ }=>exCallQ k P (hev T f) H (args.toList.map (hev T)) all d l r T
 | .call { callee:=.invoke rv name,args:=args,argTypes:=_ }=>exInvQ k P (hev T rv) name H (args.toList.map (hev T)) all d l r T
 | .buildSlice t len parts=>exRq k (rbuildSliceF P T H t len parts.toList) all d l r T H
 | op=>exRq k (ropQ P T H op) all d l r T H
def exBq2 (k:List Item→KS) (P:Program) (v:HV) (t:Nat) (b:Bool) (all:List Oper) (d:Option Nat) (op:Op) (l:List Oper) (r:List Item) (T:Nat→HV) (H:Heap):Prop :=
 match v with
 | .v (.bool c)=>(c=b→exOq k P all d op l r T H)∧(c=(!b)→k (.quiet all l::r) (updO T d (.v undef)) H)
 | .v (.tuple _)=>k (.quiet all l::r) (updO T d (.v undef)) H
 | _=>False
def exBq (k:List Item→KS) (P:Program) (t:Option Nat) (b:Bool) (all:List Oper) (d:Option Nat) (op:Op) (l:List Oper) (r:List Item) (T:Nat→HV) (H:Heap):Prop :=
 match t with
 | some t=>exBq2 k P (T t) t b all d op l r T H
 | none=>False
def exGq (k:List Item→KS) (P:Program) (all:List Oper) (o:Oper) (l:List Oper) (r:List Item) (T:Nat→HV) (H:Heap):Prop :=
 match o.guard with
 | none=>exOq k P all o.dst o.op l r T H
 | some (j,b)=>exBq k P (dstAt all j) b all o.dst o.op l r T H
def exC2 (k:List Item→KS) (v:HV) (x y:Code) (r:List Item) (T:Nat→HV) (H:Heap):Prop :=
 match v with
 | .v (.bool c)=>(c=true→k (.code x::r) T H)∧(c=false→k (.code y::r) T H)
 | _=>False
def ex (P:Program) (N L:Nat) (Q:Exit→KS):Nat→List Item→KS
 | 0,_=>fun _ _=>False
 | _+1,[]=>Q .normal
 | n+1,.endB _::r=>ex P N L Q n r
 | n+1,.ops _ []::r=>ex P N L Q n r
 | n+1,.ops all (o::l)::r=>exG (ex P N L Q n) P all o l r
 | n+1,.quiet _ []::r=>ex P N L Q n r
 | n+1,.quiet all (o::l)::r=>exGq (ex P N L Q n) P all o l r
 | n+1,.code c::r =>
  match c with
  | .skip=>ex P N L Q n r
  | .label _=>ex P N L Q n r
  | .seq x y=>ex P N L Q n (.code x::.code y::r)
  | .region _ ops false=>ex P N L Q n (.ops ops.toList ops.toList::r)
  | .cond c x y=>fun T H=>exC2 (ex P N L Q n) (hev T c) x y r T H
  | .block l c=>ex P N L Q n (.code c::.endB l::r)
  | .exit l=>Kx (ex P N L Q n) Q r (.exit l)
  | .goto l=>Q (.goto l)
  | .ret=>Q .ret
  | c=>fun T H=>HW P N L c (Kx (ex P N L Q n) Q r) T H
def codeOk (N:Nat):Code→Bool
 | .region _ ops false=>ops.toList.all fun o=>operOk N o && noDefer o
 | .seq x y=>codeOk N x && codeOk N y
 | .cond c x y=>opdOk N c && codeOk N x && codeOk N y
 | .block _ c=>codeOk N c
 | _=>true
def itemOk (N:Nat):Item→Bool
 | .code c=>codeOk N c
 | .endB _=>true
 | .ops all l=>(all.all fun o=>operOk N o && noDefer o) && l.all fun o=>operOk N o && noDefer o
 | .quiet _ _=>false
def M (F:Fence) (n:Nat) (P:Program) (Φ:Exit→Act→World→Prop):List Item→Exit→Act→World→Prop
 | [],e,a,w=>Φ e a w
 | .endB l::r,e,a,w=>match e with
  | .normal=>M F n P Φ r .normal a w
  | .exit l'=>if l'=l then M F n P Φ r .normal a w else M F n P Φ r (.exit l') a w
  | e=>M F n P Φ r e a w
 | .code c::r,e,a,w=>match e with
  | .normal=>c.wpIn F n P (M F n P Φ r) a w
  | e=>M F n P Φ r e a w
 | .ops all l::r,e,a,w=>match e with
  | .normal=>wpListIn F n P all.toArray (M F n P Φ r) l a w
  | e=>M F n P Φ r e a w
 | .quiet all l::r,e,a,w=>match e with
  | .normal=>False
  | e=>M F n P Φ r e a w
section
variable {F:Fence} {n:Nat} {P:Program} {Φ:Exit→Act→World→Prop}
theorem M_exit (l:Nat):∀(r:List Item) (a:Act) (w:World),(match dropTo l r with | some r'=>M F n P Φ r' .normal a w | none=>Φ (.exit l) a w)→M F n P Φ r (.exit l) a w
 | [],a,w,h=>h
 | .endB l'::r,a,w,h=>by
  simp only[dropTo] at h
  simp only[M]
  split at h
  ·rename_i e;split at e
   ·rename_i e';cases e;rw[if_pos e'];exact h
   ·rename_i e';rw[if_neg e'];exact M_exit l r a w (by rw[e];exact h)
  ·rename_i e;split at e
   ·cases e
   ·rename_i e';rw[if_neg e'];exact M_exit l r a w (by rw[e];exact h)
 | .code c::r,a,w,h=>by simp only[dropTo] at h;simp only[M];exact M_exit l r a w h
 | .ops all x::r,a,w,h=>by simp only[dropTo] at h;simp only[M];exact M_exit l r a w h
 | .quiet all x::r,a,w,h=>by simp only[dropTo] at h;simp only[M];exact M_exit l r a w h
theorem M_other {e:Exit} (h1:e≠.normal) (h2:∀l,e≠.exit l):∀(r:List Item) (a:Act) (w:World),Φ e a w→M F n P Φ r e a w
 | [],a,w,h=>h
 | .endB l'::r,a,w,h=>by
  have:=M_other h1 h2 r a w h
  cases e <;> first | exact absurd rfl h1 | exact absurd rfl (h2 _) | exact this
 | .code c::r,a,w,h=>by
  have:=M_other h1 h2 r a w h
  cases e <;> first | exact absurd rfl h1 | exact absurd rfl (h2 _) | exact this
 | .ops all x::r,a,w,h=>by
  have:=M_other h1 h2 r a w h
  cases e <;> first | exact absurd rfl h1 | exact absurd rfl (h2 _) | exact this
 | .quiet all x::r,a,w,h=>by
  have:=M_other h1 h2 r a w h
  cases e <;> first | exact absurd rfl h1 | exact absurd rfl (h2 _) | exact this
end
theorem dstAt_gval {all:List Oper} {j t:Nat} (h:dstAt all j=some t) (T:Nat→HV):gval all T j=T t:=by
 unfold dstAt at h
 unfold gval
 rw[h]
theorem noDefer_spec {o:Oper} (h:noDefer o=true):∀c,o.op≠.defer c:=by
 intro c hc
 unfold noDefer at h
 rw[hc] at h
 cases h
theorem St.drop {N B:Nat} {Z:Nat→Prop} {G:List (Option OG)} {FP:Nat→List Nat} {ds:List Nat} {T:Nat→HV} {H:Heap} {a:Act} {w:World} (h:St N B Z G FP ds T H a w) (d:Option Nat) (hd:∀i,d=some i→i<N):St N B Z G FP ds (updO T d (.v undef)) H (a.put d undef) w :=
 h.put (by simp[RV]) d hd
theorem dropTo_ok {N l:Nat}:∀(r r' : List Item),r.all (itemOk N)=true→dropTo l r=some r'→r'.all (itemOk N)=true
 | [],r',_,h=>by simp[dropTo] at h
 | .endB l'::r,r',hok,h=>by
  simp only[dropTo] at h
  simp only[List.all_cons,Bool.and_eq_true] at hok
  split at h
  ·cases h;exact hok.2
  ·exact dropTo_ok r r' hok.2 h
 | .code c::r,r',hok,h=>by
  simp only[dropTo] at h
  simp only[List.all_cons,Bool.and_eq_true] at hok
  exact dropTo_ok r r' hok.2 h
 | .ops all x::r,r',hok,h=>by
  simp only[dropTo] at h
  simp only[List.all_cons,Bool.and_eq_true] at hok
  exact dropTo_ok r r' hok.2 h
 | .quiet all x::r,r',hok,h=>by
  simp only[dropTo] at h
  simp only[List.all_cons,Bool.and_eq_true] at hok
  exact dropTo_ok r r' hok.2 h
section
variable {P:Program} {N L:Nat} {Q:Exit→KS}
def Fin (Q:Exit→KS) (N L B:Nat) (Z0:Nat→Prop) (G0:List (Option OG)) (FP0:Nat→List Nat) (w0:World):Exit→Act→World→Prop :=
 fun e a' w'=>∃T' H' Z' G' FP' ds',Q e T' H'∧St N B Z' G' FP' ds' T' H' a' w'∧GLt L G0 G'∧Evo Z0 FP0 w0 Z' FP' w'
theorem ex_ops {k:List Item→KS} {all l:List Oper} {o:Oper} {r:List Item} {T:Nat→HV} {H:Heap} {ro:Option Nat} {m B:Nat} {Φ:Exit→Act→World→Prop} {Z0:Nat→Prop} {G0:List (Option OG)} {FP0:Nat→List Nat} {w0:World}
  (hall:(all.all fun o=>operOk N o && noDefer o)=true) (ho:(operOk N o && noDefer o)=true)
  (ih:∀T H Z G FP ds a w,k (.ops all l::r) T H→Bo ro B FP w→St N B Z G FP ds T H a w→GLt L G0 G→Evo Z0 FP0 w0 Z FP w→M (Wd ro) m P Φ (.ops all l::r) .normal a w)
  {Z:Nat→Prop} {G:List (Option OG)} {FP:Nat→List Nat} {ds:List Nat} {a:Act} {w:World} (h:exG k P all o l r T H) (hB:Bo ro B FP w) (hs:St N B Z G FP ds T H a w) (hG:GLt L G0 G) (hE:Evo Z0 FP0 w0 Z FP w) :
  M (Wd ro) m P Φ (.ops all (o::l)::r) .normal a w:=by
 simp only[Bool.and_eq_true] at ho
 have hnd:=noDefer_spec ho.2
 have hdst:∀i,o.dst=some i→i<N:=fun i hi=>by
  have:=ho.1;simp only[operOk,dstOk,hi,Bool.and_eq_true,decide_eq_true_eq] at this;exact this.1
 have main:∀T,exO k P all o.dst o.op l r T H→St N B Z G FP ds T H a w→o.wpIn (Wd ro) m P a w (wpListIn (Wd ro) m P all.toArray (M (Wd ro) m P Φ r) l) (M (Wd ro) m P Φ r):=by
  intro T h hs
  have fin:∀{K:KS},HO P N L o T H K→(∀T' H',K T' H'→k (.ops all l::r) T' H')→o.wpIn (Wd ro) m P a w (wpListIn (Wd ro) m P all.toArray (M (Wd ro) m P Φ r) l) (M (Wd ro) m P Φ r):=by
   intro K hO hK
   refine hO ro m B Z G FP ds a w hB hG.len hs _ _ ?_
   rintro a' w' ⟨T',H',Z',G',FP',hKT,hs',hG',hE'⟩
   exact ih T' H' Z' G' FP' ds a' w' (hK _ _ hKT) (hB.evo hE') hs' (hG.trans hG') (hE.trans hE')
  unfold exO at h
  split at h
  ·rename_i f args tys hop
   unfold exCall at h
   split at h
   ·rename_i fid caps hf
    obtain ⟨Q',hc,hk⟩:=h
    exact fin (HO_call (K:=k (.ops all l::r)) hop ho.1 hf hc hk) (fun _ _ h=>h)
   ·rename_i id hf
    obtain ⟨Kb,hc,hk⟩:=h
    exact fin (HO_yield (K:=k (.ops all l::r)) hop ho.1 hf hc hk) (fun _ _ h=>h)
   ·exact h.elim
  ·rename_i rv name args tys hop
   unfold exInv at h
   split at h
   ·rename_i t x hf
    unfold exInv2 at h
    split at h
    ·rename_i fid hm
     obtain ⟨Q',hc,hk⟩:=h
     exact fin (HO_invoke (K:=k (.ops all l::r)) hop ho.1 hf hm hc hk) (fun _ _ h=>h)
    ·exact h.elim
   ·exact h.elim
  ·exact fin (HO_of_HR (K:=k (.ops all l::r)) hnd hdst (HR_rop ho.1 h)) (fun _ _ h=>h)
 simp only[M]
 unfold exG at h
 split at h
 ·rename_i hg
  exact wpListIn_plain hg fun K' hK'=>by
   have:=main T h hs
   exact Oper.wpIn_mono (fun a w h=>hK' a w h) this
 ·rename_i j b hg
  unfold exB at h
  split at h
  ·rename_i t ht
   unfold exB2 at h
   split at h
   ·rename_i c hv
    have hy:yielded all.toArray a.tmps j=some c:=by
     refine hs.yields ?_ (by rw[dstAt_gval ht];exact hv)
     rw[List.all_eq_true]
     intro x hx
     have:=List.all_eq_true.1 hall x hx
     simp only[Bool.and_eq_true,operOk] at this
     exact this.1.1
    have hw:Region.wanted o (yielded all.toArray a.tmps)=(c == b):=by
     simp only[Region.wanted,hg,hy]
     cases c <;> cases b <;> rfl
    by_cases hcb:c=b
    ·have h1:=h.1 hcb
     simp only[wpListIn,hw]
     rw[if_pos (by simp[hcb])]
     exact main T h1 hs
    ·have hcb' : c=(!b):=by cases c <;> cases b <;> simp_all
     have h1:=h.2 hcb'
     simp only[wpListIn,hw]
     rw[if_neg (by simp[hcb])]
     exact ⟨fun _ _=>trivial,ih _ _ Z G FP ds _ w h1 hB (hs.drop o.dst hdst) hG hE⟩
   ·rename_i ts hv
    have hy:yielded all.toArray a.tmps j=none:=by
     refine hs.yieldsNo ?_ (by rw[dstAt_gval ht];exact hv)
     rw[List.all_eq_true]
     intro x hx
     have:=List.all_eq_true.1 hall x hx
     simp only[Bool.and_eq_true,operOk] at this
     exact this.1.1
    have hw:Region.wanted o (yielded all.toArray a.tmps)=false:=by
     simp only[Region.wanted,hg,hy]
     cases b <;> rfl
    simp only[wpListIn,hw]
    exact ⟨fun _ _=>trivial,ih _ _ Z G FP ds _ w h hB (hs.drop o.dst hdst) hG hE⟩
   ·exact h.elim
  ·exact h.elim
theorem ex_run:∀(n:Nat) (r:List Item) (T:Nat→HV) (H:Heap),ex P N L Q n r T H→r.all (itemOk N)=true→∀(ro:Option Nat) (m B:Nat) (Z0:Nat→Prop) (G0:List (Option OG)) (FP0:Nat→List Nat) (w0:World) (Z:Nat→Prop) (G:List (Option OG)) (FP:Nat→List Nat) (ds:List Nat) (a:Act) (w:World),
  Bo ro B FP w→St N B Z G FP ds T H a w→GLt L G0 G→Evo Z0 FP0 w0 Z FP w→M (Wd ro) m P (Fin Q N L B Z0 G0 FP0 w0) r .normal a w
 | 0,r,T,H,h,_=>h.elim
 | n+1,[],T,H,h,hok=>fun ro m B Z0 G0 FP0 w0 Z G FP ds a w hB hs hG hE=>⟨T,H,Z,G,FP,ds,h,hs,hG,hE⟩
 | n+1,.endB l::r,T,H,h,hok=>fun ro m B Z0 G0 FP0 w0 Z G FP ds a w hB hs hG hE=>by
  simp only[List.all_cons,Bool.and_eq_true] at hok
  simp only[M]
  exact ex_run n r T H h hok.2 ro m B Z0 G0 FP0 w0 Z G FP ds a w hB hs hG hE
 | n+1,.ops all []::r,T,H,h,hok=>fun ro m B Z0 G0 FP0 w0 Z G FP ds a w hB hs hG hE=>by
  simp only[List.all_cons,Bool.and_eq_true] at hok
  simp only[M,wpListIn]
  exact ex_run n r T H h hok.2 ro m B Z0 G0 FP0 w0 Z G FP ds a w hB hs hG hE
 | n+1,.ops all (o::l)::r,T,H,h,hok=>fun ro m B Z0 G0 FP0 w0 Z G FP ds a w hB hs hG hE=>by
  simp only[List.all_cons,Bool.and_eq_true] at hok
  obtain ⟨hio,hr⟩:=hok
  simp only[itemOk,Bool.and_eq_true,List.all_cons] at hio
  refine ex_ops hio.1 (by simp only[Bool.and_eq_true];exact hio.2.1) ?_ h hB hs hG hE
  intro T' H' Z' G' FP' ds' a' w' hk hB' hs' hG' hE'
  exact ex_run n _ T' H' hk (by simp only[List.all_cons,Bool.and_eq_true,itemOk];exact ⟨⟨hio.1,hio.2.2⟩,hr⟩) ro m B Z0 G0 FP0 w0 Z' G' FP' ds' a' w' hB' hs' hG' hE'
 | n+1,.quiet all []::r,T,H,h,hok=>by simp[itemOk] at hok
 | n+1,.quiet all (o::l)::r,T,H,h,hok=>by simp[itemOk] at hok
 | n+1,.code c::r,T,H,h,hok=>fun ro m B Z0 G0 FP0 w0 Z G FP ds a w hB hs hG hE=>by
  simp only[List.all_cons,Bool.and_eq_true] at hok
  obtain ⟨hc,hr⟩:=hok
  simp only[itemOk] at hc
  simp only[M]
  have ih:=ex_run n
  have out:∀(e:Exit) (T' : Nat→HV) (H' : Heap) (Z' : Nat→Prop) (G' : List (Option OG)) (FP' : Nat→List Nat) (ds' : List Nat) (a' : Act) (w' : World),Kx (ex P N L Q n) Q r e T' H'→Bo ro B FP' w'→St N B Z' G' FP' ds' T' H' a' w'→GLt L G0 G'→Evo Z0 FP0 w0 Z' FP' w'→M (Wd ro) m P (Fin Q N L B Z0 G0 FP0 w0) r e a' w':=by
   intro e T' H' Z' G' FP' ds' a' w' hk hB' hs' hG' hE'
   cases e with
   | normal=>exact ih r T' H' hk hr ro m B Z0 G0 FP0 w0 Z' G' FP' ds' a' w' hB' hs' hG' hE'
   | exit l =>
    refine M_exit l r a' w' ?_
    simp only[Kx] at hk
    split at hk
    ·rename_i r' hd
     exact ih r' T' H' (by rw[hd] at hk;exact hk) (dropTo_ok r r' hr hd) ro m B Z0 G0 FP0 w0 Z' G' FP' ds' a' w' hB' hs' hG' hE'
    ·rename_i hd
     exact ⟨T',H',Z',G',FP',ds',by rw[hd] at hk;exact hk,hs',hG',hE'⟩
   | goto l=>exact M_other (by simp) (by simp) r a' w' ⟨T',H',Z',G',FP',ds',hk,hs',hG',hE'⟩
   | ret=>exact M_other (by simp) (by simp) r a' w' ⟨T',H',Z',G',FP',ds',hk,hs',hG',hE'⟩
   | panic ch=>exact M_other (by simp) (by simp) r a' w' ⟨T',H',Z',G',FP',ds',hk,hs',hG',hE'⟩
   | outgrown=>exact M_other (by simp) (by simp) r a' w' ⟨T',H',Z',G',FP',ds',hk,hs',hG',hE'⟩
  have stuck:HW P N L c (Kx (ex P N L Q n) Q r) T H→c.wpIn (Wd ro) m P (M (Wd ro) m P (Fin Q N L B Z0 G0 FP0 w0) r) a w:=by
   intro hw
   refine wpIn_mono (hw ro m B Z G FP ds a w hB hG.len hs) ?_
   rintro e a' w' ⟨T',H',Z',G',FP',ds',k1,k2,k3,k4⟩
   exact out e T' H' Z' G' FP' ds' a' w' k1 (hB.evo k4) k2 (hG.trans k3) (hE.trans k4)
  cases c with
  | skip=>exact wpIn_skip (ih r T H h hr ro m B Z0 G0 FP0 w0 Z G FP ds a w hB hs hG hE)
  | label l=>exact wpIn_label (ih r T H h hr ro m B Z0 G0 FP0 w0 Z G FP ds a w hB hs hG hE)
  | seq x y =>
   simp only[codeOk,Bool.and_eq_true] at hc
   have:=ih (.code x::.code y::r) T H h (by simp only[List.all_cons,Bool.and_eq_true,itemOk];exact ⟨hc.1,hc.2,hr⟩) ro m B Z0 G0 FP0 w0 Z G FP ds a w hB hs hG hE
   simp only[M] at this
   refine wpIn_seq (wpIn_mono this ?_)
   intro e a' w' he
   cases e <;> exact he
  | region id ops draw =>
   cases draw with
   | true=>exact stuck h
   | false =>
    simp only[codeOk] at hc
    have:=ih (.ops ops.toList ops.toList::r) T H h (by simp only[List.all_cons,Bool.and_eq_true,itemOk];exact ⟨⟨hc,hc⟩,hr⟩) ro m B Z0 G0 FP0 w0 Z G FP ds a w hB hs hG hE
    simp only[M] at this
    exact wpIn_region_list (by simpa using this)
  | cond c x y =>
   simp only[codeOk,Bool.and_eq_true] at hc
   have h' : exC2 (ex P N L Q n) (hev T c) x y r T H:=h
   unfold exC2 at h'
   split at h'
   ·rename_i b hv
    have he:=hs.cond hc.1.1 hv
    cases b with
    | true =>
     have:=ih (.code x::r) T H (h'.1 rfl) (by simp only[List.all_cons,Bool.and_eq_true,itemOk];exact ⟨hc.1.2,hr⟩) ro m B Z0 G0 FP0 w0 Z G FP ds a w hB hs hG hE
     exact wpIn_cond he this
    | false =>
     have:=ih (.code y::r) T H (h'.2 rfl) (by simp only[List.all_cons,Bool.and_eq_true,itemOk];exact ⟨hc.2,hr⟩) ro m B Z0 G0 FP0 w0 Z G FP ds a w hB hs hG hE
     exact wpIn_cond he this
   ·exact h'.elim
  | block l c =>
   simp only[codeOk] at hc
   have:=ih (.code c::.endB l::r) T H h (by simp only[List.all_cons,Bool.and_eq_true,itemOk];exact ⟨hc,trivial,hr⟩) ro m B Z0 G0 FP0 w0 Z G FP ds a w hB hs hG hE
   simp only[M] at this
   refine wpIn_block (wpIn_mono this ?_)
   intro e a' w' he
   cases e <;> exact he
  | exit l=>exact wpIn_exit (out (.exit l) T H Z G FP ds a w h hB hs hG hE)
  | goto l=>exact wpIn_goto (M_other (by simp) (by simp) r a w ⟨T,H,Z,G,FP,ds,h,hs,hG,hE⟩)
  | ret=>exact wpIn_ret (M_other (by simp) (by simp) r a w ⟨T,H,Z,G,FP,ds,h,hs,hG,hE⟩)
  | loop c=>exact stuck h
  | rangeFunc f ps as c=>exact stuck h
  | scope c=>exact stuck h
  | refuse u=>exact stuck h
theorem HW.run {c:Code} {T:Nat→HV} {H:Heap} (n:Nat) (hok:codeOk N c=true) (h:ex P N L Q n [.code c] T H):HW P N L c Q T H:=by
 intro ro m B Z G FP ds a w hB hL hs
 have:=ex_run n [.code c] T H h (by simp[itemOk,hok]) ro m B Z G FP w Z G FP ds a w hB hs (GLt.refl hL) (Evo.refl _ _ _)
 simp only[M] at this
 exact this
end
end Go.Proofs.YtmapdjdnnhlpiaaGreatDoor
namespace Go.Proofs.YtmapdjdnnhlpiaaGreatDoor
open Go.RowKit
section
variable {P:Program} {H:Heap}
theorem call_plain {f:FuncId} {args args' : List HV} {R:HV} {n:Nat} (h:HFn P f args' R) (hL:LendOk n H args args' R) (Z:Nat→Prop) (G:List (Option OG)) (FP:Nat→List Nat) (w:World) (vals:List Value) (hi:HInv Z G FP H w) (ha:RL Z G w args vals []) :
  Calls P f vals.toArray w (fun e w'=>∃v Z',e=.returned v∧HInv Z' G FP H w'∧RV Z' G w' (fzo R) v []∧Evo Z FP w Z' FP w'):=by
 rcases hL with ⟨rfl,hnz⟩ | ⟨rfl,hnm⟩
 ·have hzlt:∀b,Zall Z FP b→b<w.heap.size:=by
   rintro b (hb | ⟨id,hb⟩)
   ·exact hi.zlt b hb
   ·exact hi.flt id b hb
  have ha' : RL (Zall Z FP) [] w (args.map (fz n H)) vals []:=RL_mapf (fr:=[]) (fun h y g hg hr=>fz_spec hi n h y g (fun b hb=>by have:=hg b hb;simp at this) hr) _ _ _ (by simp) ha
  refine Calls.mono (h.2 _ [] _ w vals (HInv.empty hzlt (hi.glob.keep (fun b hb=>.inl hb) (fun _ _=>rfl))) ha') ?_
  rintro e w' ⟨v,r,H',Z',G',FP',fr,rfl,rfl,hlen,hi',hr,hnd,hfr1,hfr2,hG,hE⟩
  have hk:∀b,b<w.heap.size→w'.heap[b]?=w.heap[b]?:=fun b hb=>hE.keep b hb (by simp)
  have hr':=nz_spec (Z':=Z) r _ G v fr hnz hr
  have hnew:∀b∈fr,w.heap.size≤b:=fun b hb=>by
   rcases hfr2 b hb with h | ⟨id,h⟩
   ·exact h
   ·simp at h
  refine ⟨v,fun b=>Z b∨b∈fr,rfl,?_,?_,⟨hE.os,hE.tape,hE.output,hE.size,fun b hb _=>hk b hb,fun _ h=>.inl h,fun b hb=>hb.imp id fun h=>.inl (hnew b h),fun id b hb=>.inr ⟨id,hb⟩⟩⟩
  ·refine (hi.keep hE.size (fun b hb=>hk b (hzlt b hb))).zmore (fun b hb=>.inl hb) (fun b hb=>?_) (fun id b hb hz=>?_)
   ·rcases hb with hb | hb
    ·exact Nat.lt_of_lt_of_le (hi.zlt b hb) hE.size
    ·exact (hfr1 b hb).2.1
   ·rcases hz with hz | hz
    ·exact hi.zfp id b hb hz
    ·have:=hi.flt id b hb;have:=hnew b hz;omega
  ·exact RV.nil_keep (fun _ _=>rfl) (fun _ h=>h) (nil_GLe G) (fzo_spec (Z':=fun b=>Z b∨b∈fr) r G v fr ⟨fun b hb=>.inl hb,fun b hb=>.inr hb⟩ hr')
 ·have ha' : RL Z [] w args vals []:=by
   have:=nmL_spec args 0 G vals [] hnm ha
   simpa using this
  refine Calls.mono (h.2 Z [] _ w vals (HInv.empty hi.zlt hi.glob) ha') ?_
  rintro e w' ⟨v,r,H',Z',G',FP',fr,rfl,rfl,hlen,hi',hr,hnd,hfr1,hfr2,hG,hE⟩
  have hk:∀b,b<w.heap.size→w'.heap[b]?=w.heap[b]?:=fun b hb=>hE.keep b hb (by simp)
  have hnew:∀b∈fr,w.heap.size≤b:=fun b hb=>by
   rcases hfr2 b hb with h | ⟨id,h⟩
   ·exact h
   ·simp at h
  have hznew:∀b,Z' b→Z b∨w.heap.size≤b:=fun b hb=>by
   rcases hE.znew b hb with h | h | ⟨id,h⟩
   ·exact .inl h
   ·exact .inr h
   ·simp at h
  refine ⟨v,fun b=>Z' b∨b∈fr,rfl,?_,?_,⟨hE.os,hE.tape,hE.output,hE.size,fun b hb _=>hk b hb,fun b h=>.inl (hE.zle b h),fun b hb=>?_,fun id b hb=>.inr ⟨id,hb⟩⟩⟩
  ·refine (hi.keep hE.size (fun b hb=>hk b (by
    rcases hb with hb | ⟨id,hb⟩
    ·exact hi.zlt b hb
    ·exact hi.flt id b hb))).zmore (fun b hb=>.inl (hE.zle b hb)) (fun b hb=>?_) (fun id b hb hz=>?_)
   ·rcases hb with hb | hb
    ·exact hi'.zlt b hb
    ·exact (hfr1 b hb).2.1
   ·have hlt:=hi.flt id b hb
    rcases hz with hz | hz
    ·rcases hznew b hz with h | h
     ·exact hi.zfp id b hb h
     ·omega
    ·have:=hnew b hz;omega
  ·exact RV.nil_keep (fun _ _=>rfl) (fun _ h=>h) (nil_GLe G) (fzo_spec (Z':=fun b=>Z' b∨b∈fr) r G' v fr ⟨fun b hb=>.inl hb,fun b hb=>.inr hb⟩ hr)
  ·rcases hb with hb | hb
   ·rcases hznew b hb with h | h
    ·exact .inl h
    ·exact .inr (.inl h)
   ·exact .inr (.inl (hnew b hb))
theorem HInv.shut {Z:Nat→Prop} {G:List (Option OG)} {FP:Nat→List Nat} {w:World} {ob:HObj} {v:Value} (hi:HInv Z G FP (H++[some ob]) w) (hnm:nmH H.length (H++[some ob])=true) (hv:RV Z G w (.hd H.length 0 ob.rows.length) v []) :
  ∃Z' FP',HInv Z' (G.take H.length) FP' H w∧RV Z' (G.take H.length) w (.sl (fzoR ob.rows)) v []∧Evo Z FP w Z' FP' w:=by
 have ho:(H++[some ob])[H.length]?=some (some ob):=by simp
 obtain ⟨og,hgo,hOB,hview⟩:=hd_at hi ho (by omega) hv
 have hi2:=hi.freeze H.length
 have hset:(H++[some ob]).set H.length none=H++[none]:=by simp
 rw[hset] at hi2
 have hnm' : nmH H.length (H++[none])=true:=by
  simpa [nmH] using hnm
 have hi3:=hi2.trunc H.length hnm'
 have e1:(H++[none]).take H.length=H:=by simp
 have e2:(G.set H.length none).take H.length=G.take H.length:=by
  rw[List.take_set]
  exact List.set_eq_of_length_le (by rw[List.length_take];omega)
 rw[e1,e2] at hi3
 refine ⟨_,_,hi3,?_,?_⟩
 ·unfold View at hview
  simp only[RV]
  split at hview
  ·rename_i hbn
   obtain ⟨hview,hv1,hv2⟩:=hview
   have hrr:ob.rows=[]:=List.eq_nil_of_length_eq_zero hv2
   exact ⟨trivial,none,0,by rw[hview,hrr];rfl,by rw[hrr];simp[fzoR],by simp[maxLen],.inl (by rw[hrr];rfl)⟩
  ·rename_i b hb
   obtain ⟨ad,hy,hA⟩:=hview
   obtain ⟨b',cells,f,e1,e2,e3,e4,e5,e6,e7⟩:=hOB.cells_ hb
   rw[hb] at e1;cases e1
   refine ⟨trivial,some ad,og.cap-0,by rw[fzoR_length];exact hy,by rw[fzoR_length];omega,by omega,?_⟩
   by_cases h0:ob.rows.length=0
   ·exact .inl (List.eq_nil_of_length_eq_zero (by rw[fzoR_length];exact h0))
   ·refine .inr ⟨b,0,by rw[hA (.inr rfl)];simp,.inr (by rw[e2];simp),?_,?_⟩
    ·refine uni_len (sz:=ob.sz) fun r hr=>?_
     rw[fzoR_get] at hr
     obtain ⟨r',hr',rfl⟩:=List.mem_map.1 hr
     rw[fzoL_length];exact hOB.len r' hr'
    ·exact fzoR_spec ob.rows G b 0 f ⟨fun b hb=>.inl hb,fun b hb=>.inr (by rw[e2];simp[hb])⟩ e7
 ·refine ⟨rfl,rfl,rfl,Nat.le_refl _,fun _ _ _=>rfl,fun _ h=>.inl h,fun b hb=>?_,fun j b hb=>?_⟩
  ·rcases hb with hb | hb
   ·exact .inl hb
   ·exact .inr (.inr ⟨_,hb⟩)
  ·by_cases hj:j<H.length
   ·simp only[if_pos hj] at hb
    split at hb
    ·simp at hb
    ·exact .inr ⟨j,hb⟩
   ·simp only[if_neg hj] at hb;simp at hb
def CertO (P:Program) (T:Nat→HV) (H:Heap) (op:Op) (x:HV):Prop :=
 (∃(p:Prop) (H' : Heap),p∧ropQ P T H op=some (p,x,H'))∨
 (∃f args tys fid caps n R args',op=.call { callee:=.value f,args:=args,argTypes:=tys }∧hev T f=.fn fid caps∧HFn P (fnF fid) args' R∧LendOk n H (fnA fid .any (args.toList.map (hev T)) caps) args' R∧x=fzo R)∨
 (∃rv name args tys t y fid n R args',op=.call { callee:=.invoke rv name,args:=args,argTypes:=tys }∧hev T rv=.ic t y∧methodFn P t name=some fid∧HFn P fid args' R∧LendOk n H (y::args.toList.map (hev T)) args' R∧x=fzo R)∨
 (∃t len parts p H',op=.buildSlice t len parts∧p∧rbuildSliceF P T H t len parts.toList=some (p,x,H'))
def CertG (P:Program) (all:List Oper) (T:Nat→HV) (H:Heap) (o:Oper) (x:HV):Prop :=
 match o.guard with
 | none=>CertO P T H o.op x
 | some (j,b)=>∃t,dstAt all j=some t∧((∃c,T t=.v (.bool c)∧(c=b→CertO P T H o.op x)∧(c=(!b)→x=.v undef))∨∃ts,T t=.v (.tuple ts)∧x=.v undef)
def CertL (P:Program) (H:Heap) (all:List Oper):List Oper→(Nat→HV)→List HV→Prop
 | [],_,xs=>xs=[]
 | o::l,T,xs=>∃x xs',xs=x::xs'∧CertG P all T H o x∧CertL P H all l (updO T o.dst x) xs'
def runM (S:Nat→Bool):Nat→List Oper→List HV→(Nat→HV)→(Nat→HV)
 | i,o::l,x::xs,T=>runM S (i+1) l xs (if S i=true then updO T o.dst x else T)
 | _,_,_,T=>T
section ex
variable {k:List Item→KS} {all l:List Oper} {d:Option Nat} {r:List Item} {T:Nat→HV} {op:Op}
theorem exOq_cert (h:exOq k P all d op l r T H):∃x,CertO P T H op x∧k (.quiet all l::r) (updO T d x) H:=by
 unfold exOq at h
 split at h
 ·rename_i f args tys
  unfold exCallQ at h
  split at h
  ·rename_i fid caps hf
   obtain ⟨n,x,args',h1,h2,h3⟩:=h
   exact ⟨_,.inr (.inl ⟨f,args,tys,fid,caps,n,x,args',rfl,hf,h1,h2,rfl⟩),h3⟩
  ·exact h.elim
 ·rename_i rv name args tys
  unfold exInvQ at h
  split at h
  ·rename_i t y hf
   unfold exInvQ2 at h
   split at h
   ·rename_i fid hm
    obtain ⟨n,x,args',h1,h2,h3⟩:=h
    exact ⟨_,.inr (.inr (.inl ⟨rv,name,args,tys,t,y,fid,n,x,args',rfl,hf,hm,h1,h2,rfl⟩)),h3⟩
   ·exact h.elim
  ·exact h.elim
 ·rename_i t len parts
  unfold exRq at h
  cases hr:rbuildSliceF P T H t len parts.toList with
  | none=>rw[hr] at h;exact h.elim
  | some q =>
   obtain ⟨p,x,H'⟩:=q
   rw[hr] at h
   exact ⟨x,.inr (.inr (.inr ⟨t,len,parts,p,H',rfl,h.1,hr⟩)),h.2⟩
 ·unfold exRq at h
  cases hr:ropQ P T H op with
  | none=>rw[hr] at h;exact h.elim
  | some q =>
   obtain ⟨p,x,H'⟩:=q
   rw[hr] at h
   exact ⟨x,.inl ⟨p,H',h.1,hr⟩,h.2⟩
theorem exGq_cert {o:Oper} (h:exGq k P all o l r T H):∃x,CertG P all T H o x∧k (.quiet all l::r) (updO T o.dst x) H:=by
 unfold exGq at h
 unfold CertG
 split at h
 ·rename_i hg
  try rw[hg]
  exact exOq_cert h
 ·rename_i j b hg
  try rw[hg]
  try simp only
  unfold exBq at h
  split at h
  ·rename_i t ht
   unfold exBq2 at h
   split at h
   ·rename_i c hv
    by_cases hcb:c=b
    ·obtain ⟨x,h1,h2⟩:=exOq_cert (h.1 hcb)
     exact ⟨x,⟨t,ht,.inl ⟨c,hv,fun _=>h1,fun hc=>by subst hcb;cases c <;> simp at hc⟩⟩,h2⟩
    ·have hc:c=(!b):=by cases c <;> cases b <;> simp_all
     exact ⟨.v undef,⟨t,ht,.inl ⟨c,hv,fun hc'=>absurd hc' hcb,fun _=>rfl⟩⟩,h.2 hc⟩
   ·rename_i ts hv
    exact ⟨.v undef,⟨t,ht,.inr ⟨ts,hv,rfl⟩⟩,h⟩
   ·exact h.elim
  ·exact h.elim
theorem ex_cert {N L:Nat} {Q:Exit→KS}:∀(l:List Oper) (i n:Nat) (T:Nat→HV),ex P N L Q n (.quiet all l::r) T H→∃xs n',CertL P H all l T xs∧ex P N L Q n' r (runM (fun _=>true) i l xs T) H
 | [],i,0,T,h=>h.elim
 | [],i,n+1,T,h=>⟨[],n,rfl,h⟩
 | o::l,i,0,T,h=>h.elim
 | o::l,i,n+1,T,h=>by
  obtain ⟨x,h1,h2⟩:=exGq_cert (k:=ex P N L Q n) h
  obtain ⟨xs,n',h3,h4⟩:=ex_cert l (i+1) n _ h2
  exact ⟨x::xs,n',⟨x,xs,rfl,h1,h3⟩,h4⟩
end ex
theorem hev_congr {T T' : Nat→HV} {x:Operand} (h:∀t,x=.tmp t→T t=T' t):hev T x=hev T' x:=by
 cases x <;> simp only[hev]
 exact h _ rfl
theorem hevs_congr {T T' : Nat→HV} {l:List Operand} (h:∀x∈l,hev T x=hev T' x):l.map (hev T)=l.map (hev T'):=List.map_congr_left h
theorem ropQ_congr {T T' : Nat→HV} {op:Op} (h:∀x∈op.operands.toList,hev T x=hev T' x):ropQ P T H op=ropQ P T' H op:=by
 have h1:∀x,x∈op.operands→hev T x=hev T' x:=fun x hx=>h x (by simpa using hx)
 clear h
 unfold ropQ
 split <;> simp only[Op.operands,Call.operands] at h1
 case h_4 t parts =>
  have e:parts.toList.map (fun p=>(p.1,hev T p.2))=parts.toList.map (fun p=>(p.1,hev T' p.2)):=by
   apply List.map_congr_left
   intro p hp
   rw[h1 p.2 (by simp;exact ⟨p.1,by simpa using hp⟩)]
  simp only[e]
 case h_11 f first cs =>
  split
  ·have e:cs.toList.map (hev T)=cs.toList.map (hev T'):=hevs_congr fun x hx=>h1 x (by simp;simpa using hx)
   simp only[e]
  ·rename_i y
   have e:cs.toList.map (hev T)=cs.toList.map (hev T'):=hevs_congr fun x hx=>h1 x (by simp;exact .inr (by simpa using hx))
   simp only[e,h1 y (by simp)]
  ·rfl
 case h_12 t x lo hi =>
  have e1:lo.map (hev T)=lo.map (hev T'):=by cases lo with
   | none=>rfl
   | some y=>simp only[Option.map_some,h1 y (by simp)]
  have e2:hi.map (hev T)=hi.map (hev T'):=by cases hi with
   | none=>rfl
   | some y=>simp only[Option.map_some,h1 y (by simp)]
  simp only[e1,e2,h1 x (by simp)]
 all_goals first
  | rfl
  | (rename_i x;simp only[h1 x (by simp)];done)
  | (rename_i x _;simp only[h1 x (by simp)];done)
  | (rename_i x y _;simp only[h1 x (by simp),h1 y (by simp)];done)
  | (rename_i x y;simp only[h1 x (by simp),h1 y (by simp)];done)
  | (rename_i x y z;simp only[h1 x (by simp),h1 y (by simp),h1 z (by simp)];done)
  | (rename_i x y _ _;simp only[h1 x (by simp),h1 y (by simp)];done)
theorem CertO_congr {T T' : Nat→HV} {op:Op} {x:HV} (h:∀y∈op.operands.toList,hev T y=hev T' y) (hc:CertO P T H op x):CertO P T' H op x:=by
 rcases hc with ⟨p,H',hp,hr⟩ | ⟨f,args,tys,fid,caps,n,R,args',rfl,hf,h1,h2,h3⟩ | ⟨rv,name,args,tys,t,y,fid,n,R,args',rfl,hf,hm,h1,h2,h3⟩ | ⟨t,len,parts,p,H',rfl,hp,hr⟩
 ·exact .inl ⟨p,H',hp,by rw[←ropQ_congr h];exact hr⟩
 ·have e1:=h f (by simp[Op.operands,Call.operands])
  have e2:args.toList.map (hev T)=args.toList.map (hev T'):=hevs_congr fun x hx=>h x (by simp[Op.operands,Call.operands];exact .inr (by simpa using hx))
  exact .inr (.inl ⟨f,args,tys,fid,caps,n,R,args',rfl,e1▸hf,h1,e2▸h2,h3⟩)
 ·have e1:=h rv (by simp[Op.operands,Call.operands])
  have e2:args.toList.map (hev T)=args.toList.map (hev T'):=hevs_congr fun x hx=>h x (by simp[Op.operands,Call.operands];exact .inr (by simpa using hx))
  exact .inr (.inr (.inl ⟨rv,name,args,tys,t,y,fid,n,R,args',rfl,e1▸hf,hm,h1,e2▸h2,h3⟩))
 ·have hp1:∀p∈parts.toList,hev T p.2=hev T' p.2:=fun p hp=>h p.2 (by simp[Op.operands];exact ⟨p.1,by simpa using hp⟩)
  have e1:∀n (l:List (Nat×Operand)),(∀p∈l,hev T p.2=hev T' p.2)→PartsOk T n l=PartsOk T' n l:=by
   intro n l
   induction l with
   | nil=>intro _;rfl
   | cons p l ih =>
    intro hp
    simp only[PartsOk]
    rw[hp p (by simp),ih (fun q hq=>hp q (by simp[hq]))]
  have e2:parts.toList.map (fun p=>fzoL (cellsH (hev T p.2)))=parts.toList.map (fun p=>fzoL (cellsH (hev T' p.2))):=by
   apply List.map_congr_left
   intro p hq
   rw[hp1 p hq]
  refine .inr (.inr (.inr ⟨t,len,parts,p,H',rfl,hp,?_⟩))
  rw[←hr]
  simp only[rbuildSliceF,e2,e1 _ _ hp1]
def seenT (all:List Oper) (o:Oper):List Nat :=
 (o.op.operands.toList.filterMap fun x=>match x with | .tmp t=>some t | _=>none)++(match o.guard with | some (j,_)=>(dstAt all j).toList | none=>[])
theorem seen_hev {all:List Oper} {o:Oper} {T T' : Nat→HV} (h:∀t∈seenT all o,T t=T' t):∀y∈o.op.operands.toList,hev T y=hev T' y:=fun y hy =>
 hev_congr fun t ht=>h t (List.mem_append_left _ (List.mem_filterMap.2 ⟨y,hy,by rw[ht]⟩))
theorem CertG_congr {all:List Oper} {o:Oper} {T T' : Nat→HV} {x:HV} (h:∀t∈seenT all o,T t=T' t) (hc:CertG P all T H o x):CertG P all T' H o x:=by
 have hv:=seen_hev h
 unfold CertG at hc⊢
 split at hc
 ·exact CertO_congr hv hc
 ·rename_i j b hg
  obtain ⟨t,ht,hc⟩:=hc
  have e:T t=T' t:=h t (by unfold seenT;rw[hg];simp[ht])
  refine ⟨t,ht,?_⟩
  rw[←e]
  rcases hc with ⟨c,h1,h2,h3⟩ | hc
  ·exact .inl ⟨c,h1,fun hcb=>CertO_congr hv (h2 hcb),h3⟩
  ·exact .inr hc
section
variable {N B:Nat} {Z:Nat→Prop} {G:List (Option OG)} {FP:Nat→List Nat} {ds:List Nat} {T:Nat→HV} {a:Act} {w:World} {ro:Option Nat} {mm:Nat}
theorem enter_plain {o:Oper} {fid:Nat} {args args' : List HV} {vals:List Value} {R x:HV} {n:Nat} {K:Act→World→Prop} {Q' : Exit→Act→World→Prop} (hnd:∀c,o.op≠.defer c) (hd:∀i,o.dst=some i→i<N) (hs:St N B Z G FP ds T H a w)
  (hrun:(execOp a.eval o).run P w=.ok (.enter fid vals.toArray) w) (hv:RL Z G w args vals []) (spec:HFn P fid args' R) (hL:LendOk n H args args' R) (hx:x=fzo R)
  (hK:∀Z' G' FP' a' w',St N B Z' G' FP' ds (updO T o.dst x) H a' w'→GLe G G'→Evo Z FP w Z' FP' w'→K a' w'):o.wpIn (Wd ro) mm P a w K Q':=by
 refine ⟨fun _ _=>trivial,?_⟩
 rw[semAt_plain _ _ _ hnd,hrun,Oper.uponIn_enter]
 refine ⟨fun h=>by cases ro <;> simp[Wd,Fence.wide] at h,callsIn_wd (Calls.mono (call_plain spec hL Z G FP w vals hs.inv hv) ?_)⟩
 rintro e w' ⟨v,Z',rfl,hi',hr,hE⟩
 exact hK _ _ _ _ _ ((hs.evo hi' (GLe.refl _) hE).put (hx▸hr) o.dst hd) (GLe.refl _) hE
theorem GLe_take {G G' : List (Option OG)} (h:GLe G G'):GLe G (G'.take G.length):=by
 refine ⟨by rw[List.length_take];have:=h.len;omega,fun id hid=>?_⟩
 rw[take_get hid]
 exact h.at_ id hid
theorem certO_run {o:Oper} {x:HV} {K:Act→World→Prop} {Q' : Exit→Act→World→Prop} (hok:operOk N o=true) (hn:noDefer o=true) (hc:CertO P T H o.op x) (hs:St N B Z G FP ds T H a w)
  (hK:∀Z' G' FP' a' w',St N B Z' G' FP' ds (updO T o.dst x) H a' w'→GLe G G'→Evo Z FP w Z' FP' w'→K a' w'):o.wpIn (Wd ro) mm P a w K Q':=by
 have hnd:=noDefer_spec hn
 have hdst:∀i,o.dst=some i→i<N:=fun i hi=>by
  have:=hok;simp only[operOk,dstOk,hi,Bool.and_eq_true,decide_eq_true_eq] at this;exact this.1
 rcases hc with ⟨p,H',hp,hr⟩ | ⟨f,args,tys,fid,caps,n,R,args',hop,hf,h1,h2,h3⟩ | ⟨rv,name,args,tys,t,y,fid,n,R,args',hop,hf,hm,h1,h2,h3⟩ | ⟨t,len,parts,p,H',hop,hp,hr⟩
 ·obtain ⟨v,y,e1,rfl,e3⟩:=HQ_rop (P:=P) (K:=fun y _=>y=x) hok (by rw[hr];exact ⟨hp,rfl⟩) B Z G FP ds a w hs
  refine ⟨fun _ _=>trivial,?_⟩
  rw[semAt_plain _ _ _ hnd,e1]
  exact hK _ _ _ _ _ (hs.put e3 o.dst hdst) (GLe.refl _) (Evo.refl _ _ _)
 ·have hfv:=hs.hev f (opds_mem hok (by simp[hop,Op.operands,Call.operands]))
  rw[hf] at hfv
  simp only[RV] at hfv
  obtain ⟨cs,hfe,hcl⟩:=hfv
  have hargs:args.toList.all (opdOk N)=true:=by
   rw[List.all_eq_true]
   intro x hx
   exact opds_mem hok (by simp[hop,Op.operands,Call.operands];exact .inr (by simpa using hx))
  have hal:=RL_evals hs args.toList hargs
  exact enter_plain hnd hdst hs (run_fnV hop hfe h1.1) (RL_fnA fid hal hcl) h1 h2 h3 hK
 ·have hfv:=hs.hev rv (opds_mem hok (by simp[hop,Op.operands,Call.operands]))
  rw[hf] at hfv
  simp only[RV] at hfv
  obtain ⟨_,z,hfe,hcl⟩:=hfv
  have hargs:args.toList.all (opdOk N)=true:=by
   rw[List.all_eq_true]
   intro x hx
   exact opds_mem hok (by simp[hop,Op.operands,Call.operands];exact .inr (by simpa using hx))
  have hal:=RL_evals hs args.toList hargs
  have hvals:RL Z G w (y::args.toList.map (hev T)) (z::args.toList.map a.eval) []:=by
   simp only[RL]
   exact ⟨_,_,[],[],rfl,rfl,hcl,hal⟩
  refine enter_plain hnd hdst hs ?_ hvals h1 h2 h3 hK
  have e:#[z]++(#[Value.iface t z]++args.map a.eval).extract 1 (#[Value.iface t z]++args.map a.eval).size=(z::args.toList.map a.eval).toArray:=by
   apply Array.ext';simp[List.take_of_length_le]
  simp only[execOp,hop,resolve,hfe,Sem.run_bind,Sem.run_pure,Result.andThen_ok,invoke]
  have e0:(#[Value.iface t z]++args.map a.eval)[0]?=some (Value.iface t z):=by rw[Array.getElem?_append_left (by simp)];rfl
  rw[e0]
  simp only[callMethod,Sem.run_bind,run_program,Result.andThen_ok,run_method z hm,e]
  exact h1.1 _ _
 ·have hnmH:=hs.inv.nm
  have key:∃e,elemTI P t 3=some e∧p=(len=parts.toList.length∧seqParts 0 parts.toList=true∧e.2.2.size≠0∧len*e.2.2.size≤16777216∧(zcells e.2.2).isSome=true∧PartsOk T e.2.2.size parts.toList)∧x=.sl (parts.toList.map fun p=>fzoL (cellsH (hev T p.2))):=by
   unfold rbuildSliceF bindO at hr
   split at hr
   ·rename_i e he
    cases hr
    exact ⟨e,he,rfl,rfl⟩
   ·cases hr
  obtain ⟨e,he,rfl,rfl⟩:=key
  have hR:=HR_rop (P:=P) (T:=T) (H:=H) (K:=fun x0 H0=>x0=.hd H.length 0 (parts.toList.map fun p=>cellsH (hev T p.2)).length∧H0=H++[some ⟨e.2.1,e.2.2.size,parts.toList.map fun p=>cellsH (hev T p.2)⟩]) hok (by
   rw[hop]
   show onR (rbuildSlice P T H t len parts.toList) _
   unfold rbuildSlice bindO
   rw[he]
   exact ⟨hp,by rw[List.length_map],rfl⟩)
  obtain ⟨r,v,w',x0,H0,Z',G',FP',hrun,hv,⟨rfl,rfl⟩,hx,hi,hG,hE⟩:=hR B Z G FP ds a w hs
  obtain ⟨Z2,FP2,hi2,hx2,hE2⟩:=HInv.shut (ob:=⟨e.2.1,e.2.2.size,parts.toList.map fun p=>cellsH (hev T p.2)⟩) hi (by
   have:nmH H.length (H++[some (⟨e.2.1,e.2.2.size,parts.toList.map fun p=>cellsH (hev T p.2)⟩:HObj)])=nmH H.length H:=by simp[nmH]
   rw[this];exact hnmH) hx
  have hlen:G.length=H.length:=hs.inv.len
  have hG2:GLe G (G'.take H.length):=by rw[←hlen];exact GLe_take hG
  have hx3:RV Z2 (G'.take H.length) w' (.sl (parts.toList.map fun p=>fzoL (cellsH (hev T p.2)))) v []:=by
   have e3:parts.toList.map (fun p=>fzoL (cellsH (hev T p.2)))=fzoR (parts.toList.map fun p=>cellsH (hev T p.2)):=by
    rw[fzoR_get,List.map_map];rfl
   rw[e3];exact hx2
  refine ⟨fun _ _=>trivial,?_⟩
  rw[semAt_plain _ _ _ hnd,hrun]
  have hs':=(hs.evo hi2 hG2 (hE.trans hE2)).put hx3 o.dst hdst
  rcases hv with rfl | ⟨rfl,rfl⟩
  ·exact hK _ _ _ _ _ hs' hG2 (hE.trans hE2)
  ·exact hK _ _ _ _ _ hs' hG2 (hE.trans hE2)
theorem certG_run {all:List Oper} {j:Nat} {o:Oper} {x:HV} {K:Act→World→Prop} {Q' : Exit→Act→World→Prop} (hall:all.all (dstOk N)=true) (hj:all[j]?=some o) (hok:operOk N o=true) (hn:noDefer o=true) (hc:CertG P all T H o x) (hs:St N B Z G FP ds T H a w)
  (hK:∀Z' G' FP' a' w',St N B Z' G' FP' ds (updO T o.dst x) H a' w'→GLe G G'→Evo Z FP w Z' FP' w'→K a' w'):wpOpIn (Wd ro) mm P all.toArray Q' j K a w:=by
 have hdst:∀i,o.dst=some i→i<N:=fun i hi=>by
  have:=hok;simp only[operOk,dstOk,hi,Bool.and_eq_true,decide_eq_true_eq] at this;exact this.1
 unfold wpOpIn
 rw[List.getElem?_toArray,hj]
 dsimp only
 unfold CertG at hc
 split at hc
 ·rename_i hg
  simp only[Region.wanted,hg,if_true]
  exact certO_run hok hn hc hs hK
 ·rename_i k b hg
  obtain ⟨t,ht,hc⟩:=hc
  rcases hc with ⟨c,h1,h2,h3⟩ | ⟨ts,h1,rfl⟩
  ·have hy:yielded all.toArray a.tmps k=some c:=hs.yields hall (by rw[dstAt_gval ht];exact h1)
   have hw:Region.wanted o (yielded all.toArray a.tmps)=(c == b):=by
    simp only[Region.wanted,hg,hy]
    cases c <;> cases b <;> rfl
   rw[hw]
   by_cases hcb:c=b
   ·rw[if_pos (by simp[hcb])]
    exact certO_run hok hn (h2 hcb) hs hK
   ·have hc:c=(!b):=by cases c <;> cases b <;> simp_all
    obtain rfl:=h3 hc
    rw[if_neg (by simp[hcb])]
    exact ⟨fun _ _=>trivial,hK _ _ _ _ _ (hs.drop o.dst hdst) (GLe.refl _) (Evo.refl _ _ _)⟩
  ·have hy:yielded all.toArray a.tmps k=none:=hs.yieldsNo hall (by rw[dstAt_gval ht];exact h1)
   have hw:Region.wanted o (yielded all.toArray a.tmps)=false:=by
    simp only[Region.wanted,hg,hy]
    cases b <;> rfl
   rw[hw,if_neg (by simp)]
   exact ⟨fun _ _=>trivial,hK _ _ _ _ _ (hs.drop o.dst hdst) (GLe.refl _) (Evo.refl _ _ _)⟩
end
theorem runM_at {S S' : Nat→Bool} {t:Nat}:∀(l:List Oper) (xs:List HV) (i:Nat) (T T' : Nat→HV),T t=T' t→(∀j,dstAt l j=some t→S (i+j)=S' (i+j))→runM S i l xs T t=runM S' i l xs T' t
 | [],xs,i,T,T',h,_=>by cases xs <;> exact h
 | o::l,[],i,T,T',h,_=>h
 | o::l,x::xs,i,T,T',h,hS=>by
  simp only[runM]
  refine runM_at l xs (i+1) _ _ ?_ fun j hj=>by
   have:=hS (j+1) (by simpa [dstAt] using hj)
   rwa [show i+(j+1)=i+1+j by omega] at this
  by_cases hd:o.dst=some t
  ·have:=hS 0 (by simp[dstAt,hd])
   rw[Nat.add_zero] at this
   rw[this]
   split
   ·simp[updO,hd,upd]
   ·exact h
  ·have e:∀T:Nat→HV,updO T o.dst x t=T t:=fun T=>by
    cases hdd:o.dst with
    | none=>rfl
    | some d =>
     have:t≠d:=fun e=>hd (by rw[hdd,e])
     simp[updO,upd,this]
   split <;> split <;> first | exact h | (rw[e];exact h) | (rw[e,e];exact h)
theorem runM_no {S:Nat→Bool} {t:Nat}:∀(l:List Oper) (xs:List HV) (i:Nat) (T:Nat→HV),(∀j,dstAt l j=some t→S (i+j)=false)→runM S i l xs T t=T t
 | [],xs,i,T,_=>by cases xs <;> rfl
 | o::l,[],i,T,_=>rfl
 | o::l,x::xs,i,T,hS=>by
  simp only[runM]
  rw[runM_no l xs (i+1) _ fun j hj=>by
   have:=hS (j+1) (by simpa [dstAt] using hj)
   rwa [show i+(j+1)=i+1+j by omega] at this]
  by_cases hd:o.dst=some t
  ·have:=hS 0 (by simp[dstAt,hd])
   rw[Nat.add_zero] at this
   simp[this]
  ·split
   ·cases hdd:o.dst with
    | none=>rfl
    | some d =>
     have:t≠d:=fun e=>hd (by rw[hdd,e])
     simp[updO,upd,this]
   ·rfl
theorem runM_add {S S' : Nat→Bool}:∀(l:List Oper) (xs:List HV) (i j:Nat) (T:Nat→HV) (o:Oper) (x:HV),l[j]?=some o→xs[j]?=some x→S' (i+j)=true→S (i+j)=false→(∀k,k≠i+j→S' k=S k)→
  (∀k,j<k→S (i+k)=true→∀t,o.dst=some t→dstAt l k≠some t)→runM S' i l xs T=updO (runM S i l xs T) o.dst x
 | [],xs,i,j,T,o,x,h,_,_,_,_,_=>by simp at h
 | o0::l,[],i,j,T,o,x,_,h,_,_,_,_=>by simp at h
 | o0::l,x0::xs,i,0,T,o,x,h1,h2,h3,h4,h5,h6=>by
  simp only[List.getElem?_cons_zero,Option.some.injEq] at h1 h2
  subst h1 h2
  rw[Nat.add_zero] at h3 h4
  have hS:∀j',S' (i+1+j')=S (i+1+j'):=fun j'=>h5 _ (by omega)
  simp only[runM,h3,h4,if_true,Bool.false_eq_true,if_false]
  funext t
  by_cases hd:o0.dst=some t
  ·rw[runM_no]
   ·simp[hd,updO,upd]
   ·intro j' hj'
    rw[hS]
    cases hc:S (i+1+j') with
    | false=>rfl
    | true =>
     refine absurd ?_ (h6 (j'+1) (by omega) (by rw[show i+(j'+1)=i+1+j' by omega];exact hc) t hd)
     simpa [dstAt] using hj'
  ·have e:∀T:Nat→HV,updO T o0.dst x0 t=T t:=fun T=>by
    cases hdd:o0.dst with
    | none=>rfl
    | some d =>
     have:t≠d:=fun e=>hd (by rw[hdd,e])
     simp[updO,upd,this]
   rw[e]
   exact runM_at l xs (i+1) _ _ (e T) fun j' _=>hS j'
 | o0::l,x0::xs,i,j+1,T,o,x,h1,h2,h3,h4,h5,h6=>by
  simp only[List.getElem?_cons_succ] at h1 h2
  have hi:S' i=S i:=h5 i (by omega)
  simp only[runM,hi]
  refine runM_add l xs (i+1) j _ o x h1 h2 (by rw[show i+1+j=i+(j+1) by omega];exact h3) (by rw[show i+1+j=i+(j+1) by omega];exact h4) (fun k hk=>h5 k (by omega)) ?_
  intro k hk hS t ht
  have:=h6 (k+1) (by omega) (by rw[show i+(k+1)=i+1+k by omega];exact hS) t ht
  simpa [dstAt] using this
theorem CertL_at {all:List Oper}:∀(l:List Oper) (xs:List HV) (i j:Nat) (T:Nat→HV) (o:Oper),CertL P H all l T xs→l[j]?=some o→∃x,xs[j]?=some x∧CertG P all (runM (fun k=>decide (k<i+j)) i l xs T) H o x
 | [],xs,i,j,T,o,_,h=>by simp at h
 | o0::l,xs,i,0,T,o,hc,h=>by
  obtain ⟨x,xs',rfl,h1,_⟩:=hc
  simp only[List.getElem?_cons_zero,Option.some.injEq] at h
  subst h
  refine ⟨x,rfl,CertG_congr (fun t _=>?_) h1⟩
  rw[runM_no]
  intro j' _
  simp
 | o0::l,xs,i,j+1,T,o,hc,h=>by
  obtain ⟨x,xs',rfl,_,h2⟩:=hc
  simp only[List.getElem?_cons_succ] at h
  obtain ⟨y,h3,h4⟩:=CertL_at l xs' (i+1) j _ o h2 h
  refine ⟨y,by simpa using h3,CertG_congr (fun t _=>?_) h4⟩
  have e:(fun k=>decide (k<i+1+j))=fun k=>decide (k<i+(j+1)):=by funext k;congr 2;omega
  simp only[runM,e]
  rw[if_pos (by simp)]
end
def befs:List Oper→List Nat→List Nat
 | [],acc=>acc
 | o::l,acc=>befs l (acc++[o.after.toList.foldl (fun s e=>if Region.binds .any e=true then s ||| 2 ^ e.on ||| acc.getD e.on 0 else s) 0])
theorem bef_one {acc:List Nat} {i:Nat}:∀(es:List Edge) (s:Nat),(es.foldl (fun s e=>if Region.binds .any e=true then s ||| 2 ^ e.on ||| acc.getD e.on 0 else s) s).testBit i=true→s.testBit i=true∨∃e∈es,Region.binds .any e=true∧(e.on=i∨(acc.getD e.on 0).testBit i=true)
 | [],s,h=>.inl h
 | e::es,s,h=>by
  simp only[List.foldl_cons] at h
  rcases bef_one es _ h with h | ⟨e',h1,h2⟩
  ·split at h
   ·rename_i hb
    simp only[Nat.testBit_or,Bool.or_eq_true,Nat.testBit_two_pow,decide_eq_true_eq] at h
    rcases h with (h | h) | h
    ·exact .inl h
    ·exact .inr ⟨e,by simp,hb,.inl h⟩
    ·exact .inr ⟨e,by simp,hb,.inr h⟩
   ·exact .inl h
  ·exact .inr ⟨e',by simp[h1],h2⟩
theorem befs_pre:∀(l:List Oper) (acc:List Nat),∃m,befs l acc=acc++m∧m.length=l.length
 | [],acc=>⟨[],by simp[befs],rfl⟩
 | o::l,acc=>by
  obtain ⟨m,h1,h2⟩:=befs_pre l (acc++[o.after.toList.foldl (fun s e=>if Region.binds .any e=true then s ||| 2 ^ e.on ||| acc.getD e.on 0 else s) 0])
  refine ⟨o.after.toList.foldl (fun s e=>if Region.binds .any e=true then s ||| 2 ^ e.on ||| acc.getD e.on 0 else s) 0::m,?_,by simp[h2]⟩
  rw[befs,h1,List.append_assoc,List.singleton_append]
theorem befs_spec {i:Nat}:∀(l:List Oper) (acc:List Nat) (j:Nat) (o:Oper),l[j]?=some o→((befs l acc).getD (acc.length+j) 0).testBit i=true→∃e∈o.after.toList,Region.binds .any e=true∧(e.on=i∨((befs l acc).getD e.on 0).testBit i=true)
 | [],acc,j,o,h,_=>by simp at h
 | o0::l,acc,0,o,h,hb=>by
  simp only[List.getElem?_cons_zero,Option.some.injEq] at h
  subst h
  simp only[befs] at hb⊢
  obtain ⟨m,h1,h2⟩:=befs_pre l (acc++[o0.after.toList.foldl (fun s e=>if Region.binds .any e=true then s ||| 2 ^ e.on ||| acc.getD e.on 0 else s) 0])
  rw[h1] at hb⊢
  have e1:((acc++[o0.after.toList.foldl (fun s e=>if Region.binds .any e=true then s ||| 2 ^ e.on ||| acc.getD e.on 0 else s) 0])++m).getD (acc.length+0) 0=o0.after.toList.foldl (fun s e=>if Region.binds .any e=true then s ||| 2 ^ e.on ||| acc.getD e.on 0 else s) 0:=by
   simp[List.getD_eq_getElem?_getD]
  rw[e1] at hb
  rcases bef_one _ _ hb with h | ⟨e,he,h3,h4⟩
  ·simp at h
  ·refine ⟨e,he,h3,h4.imp id fun h4=>?_⟩
   by_cases hlt:e.on<acc.length
   ·have:(acc++[o0.after.toList.foldl (fun s e=>if Region.binds .any e=true then s ||| 2 ^ e.on ||| acc.getD e.on 0 else s) 0]++m).getD e.on 0=acc.getD e.on 0:=by
     simp[List.getD_eq_getElem?_getD,List.getElem?_append,hlt]
    rw[this];exact h4
   ·rw[List.getD_eq_getElem?_getD,List.getElem?_eq_none (by omega)] at h4
    simp at h4
 | o0::l,acc,j+1,o,h,hb=>by
  simp only[List.getElem?_cons_succ] at h
  simp only[befs] at hb⊢
  refine befs_spec l _ j o h ?_
  rw[List.length_append,List.length_singleton,show acc.length+1+j=acc.length+(j+1) by omega]
  exact hb
def confB (all:List Oper) (o o' : Oper):Bool :=
 (match o.dst with | some d=>(seenT all o').contains d || o'.dst == some d | none=>false) ||
 (match o'.dst with | some d'=>(seenT all o).contains d' | none=>false)
def mustB (bs:List Nat) (i j:Nat):Bool:=(bs.getD j 0).testBit i
def anyB (N m:Nat) (all:List Oper):Bool :=
 let bs:=befs all []
 (all.all fun o=>operOk N o && noDefer o) &&
 (all.zipIdx.all fun (o,j)=>(o.after.toList.all fun e=>!Region.binds .any e || decide (e.on<j)) &&
  (all.zipIdx.all fun (o',i)=>!decide (i<j) || (!(decide (m≤j) || confB all o' o)) || mustB bs i j))
structure AnyOk (N m:Nat) (all:List Oper):Prop where
 ok:∀(j:Nat) o,all[j]?=some o→operOk N o=true∧noDefer o=true
 back:∀(j:Nat) o,all[j]?=some o→∀e∈o.after.toList,Region.binds .any e=true→e.on<j
 ord:∀(i j:Nat) o' o,i<j→all[i]?=some o'→all[j]?=some o→(m≤j∨confB all o' o=true)→mustB (befs all []) i j=true
theorem anyB_spec {N m:Nat} {all:List Oper} (h:anyB N m all=true):AnyOk N m all:=by
 simp only[anyB,Bool.and_eq_true] at h
 obtain ⟨h1,h2⟩:=h
 rw[List.all_eq_true] at h1 h2
 have mem:∀{j:Nat} {o:Oper},all[j]?=some o→(o,j)∈all.zipIdx:=fun {j o} hj=>by
  rw[List.mem_zipIdx_iff_getElem?];exact hj
 refine ⟨fun j o hj=>?_,fun j o hj e he hb=>?_,fun i j o' o hij hi hj hc=>?_⟩
 ·have:=h1 o (List.mem_of_getElem? hj)
  simpa using this
 ·have:=h2 (o,j) (mem hj)
  simp only[Bool.and_eq_true,List.all_eq_true] at this
  have:=this.1 e he
  simp only[hb,Bool.not_true,Bool.false_or,decide_eq_true_eq] at this
  exact this
 ·have:=h2 (o,j) (mem hj)
  simp only[Bool.and_eq_true,List.all_eq_true] at this
  have:=this.2 (o',i) (mem hi)
  simp only[hij,decide_true,Bool.not_true,Bool.false_or,Bool.or_eq_true,Bool.not_eq_true',Bool.or_eq_false_iff,decide_eq_false_iff_not] at this
  rcases this with ⟨h3,h4⟩ | h
  ·rcases hc with hc | hc
   ·exact absurd hc h3
   ·rw[hc] at h4;cases h4
  ·exact h
def Closed (all:List Oper) (listed:Array Bool):Prop:=∀(j:Nat) o,all[j]?=some o→listed.getD j false=true→∀e∈o.after.toList,Region.binds .any e=true→listed.getD e.on false=true
theorem closed_must {N m:Nat} {all:List Oper} {listed:Array Bool} (hA:AnyOk N m all) (hc:Closed all listed):∀(j i:Nat) (o:Oper),all[j]?=some o→(∀e∈o.after.toList,Region.binds .any e=true→listed.getD e.on false=true)→mustB (befs all []) i j=true→listed.getD i false=true:=by
 intro j
 induction j using Nat.strongRecOn with
 | _ j ih =>
  intro i o hj ha hm
  unfold mustB at hm
  obtain ⟨e,he,h1,h2⟩:=befs_spec all [] j o hj (by simpa using hm)
  rcases h2 with rfl | h2
  ·exact ha e he h1
  ·have hlt:=hA.back j o hj e he h1
   have hjl:=(List.getElem?_eq_some_iff.1 hj).1
   have hlt' : e.on<all.length:=by omega
   exact ih e.on hlt i _ (List.getElem?_eq_getElem hlt') (hc e.on _ (List.getElem?_eq_getElem hlt') (ha e he h1)) h2
section
variable {P:Program} {N L:Nat} {Q:Exit→KS} {H:Heap}
theorem getD_set_listed {listed:Array Bool} {i k:Nat} {b:Bool} (h:(listed.setIfInBounds i true).getD k b=true):k=i∨listed.getD k b=true:=by
 by_cases e:k=i
 ·exact .inl e
 ·right
  simp only[Array.getD_eq_getD_getElem?,Array.getElem?_setIfInBounds_ne (Ne.symm e)] at h⊢
  exact h
theorem getD_set_keep {listed:Array Bool} {i k:Nat} (h:listed.getD k false=true):(listed.setIfInBounds i true).getD k false=true:=by
 by_cases e:k=i
 ·subst e
  have hlt:k<listed.size:=by
   rcases Nat.lt_or_ge k listed.size with h' | h'
   ·exact h'
   ·simp[Array.getD_eq_getD_getElem?,Array.getElem?_eq_none h'] at h
  simp[Array.getD_eq_getD_getElem?,hlt]
 ·simp only[Array.getD_eq_getD_getElem?,Array.getElem?_setIfInBounds_ne (Ne.symm e)] at h⊢
  exact h
theorem getD_set_self {listed:Array Bool} {i:Nat} (h:i<listed.size):(listed.setIfInBounds i true).getD i false=true:=by
 simp[Array.getD_eq_getD_getElem?,h]
theorem closed_add {all:List Oper} {listed:Array Bool} {i:Nat} (hc:Closed all listed) (hi:∀o,all[i]?=some o→∀e∈o.after.toList,Region.binds .any e=true→listed.getD e.on false=true):Closed all (listed.setIfInBounds i true):=by
 intro j o hj hl e he hb
 rcases getD_set_listed hl with rfl | hl
 ·exact getD_set_keep (hi o hj e he hb)
 ·exact getD_set_keep (hc j o hj hl e he hb)
def left (listed:Array Bool):Nat:=(listed.toList.filter fun b=>!b).length
theorem left_add {listed:Array Bool} {i:Nat} (hi:listed[i]?=some false):left (listed.setIfInBounds i true)+1=left listed:=by
 obtain ⟨l⟩:=listed
 simp only[left,List.setIfInBounds_toArray,List.getElem?_toArray] at hi⊢
 induction l generalizing i with
 | nil=>simp at hi
 | cons b l ih =>
  cases i with
  | zero =>
   simp only[List.getElem?_cons_zero,Option.some.injEq] at hi
   subst hi
   simp
  | succ i =>
   simp only[List.getElem?_cons_succ] at hi
   have:=ih hi
   simp only[List.set_cons_succ,List.filter_cons]
   cases b <;> simp <;> omega
theorem left_zero {listed:Array Bool} (h:left listed=0):∀i,i<listed.size→listed.getD i false=true:=by
 intro i hi
 unfold left at h
 have h':=List.eq_nil_of_length_eq_zero h
 rw[List.filter_eq_nil_iff] at h'
 have:=h' listed[i] (by simp)
 simp only[Array.getD_eq_getD_getElem?,Array.getElem?_eq_getElem hi,Option.getD_some]
 cases hb:listed[i] <;> simp_all
section go
variable {m mm B:Nat} {ro:Option Nat} {all:List Oper} {Φ:Exit→Act→World→Prop}
theorem not_listed {listed:Array Bool} {i:Nat} (h:listed.getD i true=false):listed[i]?=some false:=by
 rw[Array.getD_eq_getD_getElem?] at h
 cases hi:listed[i]? with
 | none=>rw[hi] at h;simp at h
 | some b=>rw[hi] at h;simpa using h
theorem ready_least (hA:AnyOk N m all) {listed:Array Bool} (hsz:listed.size=all.length) {i:Nat} (hi:i<all.length) (hn:listed.getD i false=false) (hl:∀k,k<i→listed.getD k false=true):i∈Region.ready .any all.toArray listed:=by
 refine mem_ready.2 ⟨?_,all[i],by simp[hi],fun e he hb=>hl e.on (hA.back i _ (List.getElem?_eq_getElem hi) e (by simpa using he) hb)⟩
 rw[Array.getD_eq_getD_getElem?,Array.getElem?_eq_getElem (by omega)] at hn⊢
 simpa using hn
theorem ready_must (hA:AnyOk N m all) {listed:Array Bool} (hc:Closed all listed) {i j:Nat} (hr:j∈Region.ready .any all.toArray listed) (hm:mustB (befs all []) i j=true):listed.getD i false=true:=by
 obtain ⟨_,o,ho,ha⟩:=mem_ready.1 hr
 rw[List.getElem?_toArray] at ho
 exact closed_must hA hc j i o ho (fun e he hb=>ha e (by simpa using he) hb) hm
theorem any_tail (hA:AnyOk N m all):∀(l:List Oper) (k fuel:Nat) (listed:Array Bool) (a:Act) (w:World),all.drop k=l→m≤k→k≤all.length→listed.size=all.length→left listed≤fuel→Closed all listed→
  (∀i,i<all.length→(listed.getD i false=true↔i<k))→wpListIn (Wd ro) mm P all.toArray Φ l a w→wpAnyIn (Wd ro) mm P .any all.toArray Φ fuel listed a w
 | [],k,fuel,listed,a,w,hd,hm,hk,hsz,hf,hc,hl,h=>by
  have hk' : all.length≤k:=by
   have:=congrArg List.length hd
   simp at this;omega
  have hno:Region.ready .any all.toArray listed=[]:=by
   rw[List.eq_nil_iff_forall_not_mem]
   intro i hi
   obtain ⟨h1,o,ho,_⟩:=mem_ready.1 hi
   rw[List.getElem?_toArray] at ho
   have hi':=(List.getElem?_eq_some_iff.1 ho).1
   have h2:=(hl i hi').2 (by omega)
   have:=not_listed h1
   rw[Array.getD_eq_getD_getElem?,this] at h2
   simp at h2
  cases fuel with
  | zero=>exact ⟨hno,h⟩
  | succ fuel=>exact ⟨fun _=>h,fun i hi=>by rw[hno] at hi;simp at hi⟩
 | o::l,k,fuel,listed,a,w,hd,hm,hk,hsz,hf,hc,hl,h=>by
  have hk' : k<all.length:=by
   have:=congrArg List.length hd
   simp at this;omega
  have hko:all[k]?=some o:=by
   have:=congrArg (·[0]?) hd
   simpa [List.getElem?_drop] using this
  have hd' : all.drop (k+1)=l:=by rw[←List.drop_drop,hd];rfl
  have hkr:k∈Region.ready .any all.toArray listed:=ready_least hA hsz hk' (by
   cases hx:listed.getD k false with
   | false=>rfl
   | true=>exact absurd ((hl k hk').1 hx) (by omega)) (fun j hj=>(hl j (by omega)).2 hj)
  cases fuel with
  | zero =>
   exfalso
   have:=left_zero (Nat.le_zero.1 hf) k (by omega)
   exact absurd ((hl k hk').1 this) (by omega)
  | succ fuel =>
   refine ⟨fun h0=>by rw[h0] at hkr;simp at hkr,fun i hi=>?_⟩
   obtain ⟨h1,oi,hoi,ha⟩:=mem_ready.1 hi
   have hoi':=hoi
   rw[List.getElem?_toArray] at hoi
   have hil:=(List.getElem?_eq_some_iff.1 hoi).1
   have hnl:=not_listed h1
   have hik:i=k:=by
    rcases Nat.lt_trichotomy i k with h' | h' | h'
    ·have:=(hl i hil).2 h'
     rw[Array.getD_eq_getD_getElem?,hnl] at this
     simp at this
    ·exact h'
    ·have:=ready_must hA hc hi (hA.ord k i o oi h' hko hoi (.inl (by omega)))
     exact absurd ((hl k hk').1 this) (by omega)
   subst hik
   rw[hko] at hoi
   cases hoi
   have hadd:=left_add hnl
   have hcl:=closed_add (i:=i) hc (fun o' ho' e he hb=>by rw[hko] at ho';cases ho';exact ha e (by simpa using he) hb)
   have hl' : ∀j,j<all.length→((listed.setIfInBounds i true).getD j false=true↔j<i+1):=by
    intro j hj
    constructor
    ·intro hx
     rcases getD_set_listed hx with rfl | hx
     ·omega
     ·have:=(hl j hj).1 hx;omega
    ·intro hx
     by_cases e:j=i
     ·subst e;exact getD_set_self (by omega)
     ·exact getD_set_keep ((hl j hj).2 (by omega))
   have ih:=fun a w=>any_tail hA l (i+1) fuel (listed.setIfInBounds i true) a w hd' (by omega) (by omega) (by simpa using hsz) (by omega) hcl hl'
   unfold wpOpIn
   rw[hoi']
   simp only[wpListIn] at h
   simp only
   split at h
   ·rename_i hw
    rw[if_pos hw]
    exact Oper.wpIn_mono (fun a w h=>ih a w h) h
   ·rename_i hw
    rw[if_neg hw]
    exact ⟨h.1,ih _ _ h.2⟩
theorem any_head (hA:AnyOk N m all) {Z0:Nat→Prop} {G0:List (Option OG)} {FP0:Nat→List Nat} {ds:List Nat} {T0:Nat→HV} {xs:List HV} {w0:World} (hc0:CertL P H all (all.take m) T0 xs)
  (hend:∀Z G FP a w,St N B Z G FP ds (runM (fun _=>true) 0 (all.take m) xs T0) H a w→GLe G0 G→Evo Z0 FP0 w0 Z FP w→wpListIn (Wd ro) mm P all.toArray Φ (all.drop m) a w) :
  ∀(fuel:Nat) (listed:Array Bool) (Z:Nat→Prop) (G:List (Option OG)) (FP:Nat→List Nat) (a:Act) (w:World),listed.size=all.length→left listed≤fuel→Closed all listed→(∀j,m≤j→j<all.length→listed.getD j false=false)→
  St N B Z G FP ds (runM (fun k=>listed.getD k false) 0 (all.take m) xs T0) H a w→GLe G0 G→Evo Z0 FP0 w0 Z FP w→wpAnyIn (Wd ro) mm P .any all.toArray Φ fuel listed a w:=by
 intro fuel
 induction fuel with
 | zero =>
  intro listed Z G FP a w hsz hf hc hm hs hG hE
  have hall:=left_zero (Nat.le_zero.1 hf)
  have hml:all.length≤m:=by
   rcases Nat.lt_or_ge m all.length with h | h
   ·have h1:=hm m (Nat.le_refl _) h
    rw[hall m (by omega)] at h1;cases h1
   ·exact h
  have hno:Region.ready .any all.toArray listed=[]:=by
   rw[List.eq_nil_iff_forall_not_mem]
   intro i hi
   obtain ⟨h1,o,ho,_⟩:=mem_ready.1 hi
   rw[List.getElem?_toArray] at ho
   have hi':=(List.getElem?_eq_some_iff.1 ho).1
   have h2:=hall i (by omega)
   rw[Array.getD_eq_getD_getElem?,not_listed h1] at h2
   simp at h2
  refine ⟨hno,?_⟩
  have hTe:runM (fun k=>listed.getD k false) 0 (all.take m) xs T0=runM (fun _=>true) 0 (all.take m) xs T0:=by
   funext t
   refine runM_at _ _ _ _ _ rfl fun j hj=>?_
   have hjl:j<(all.take m).length:=by
    unfold dstAt at hj
    cases hx:(all.take m)[j]? with
    | none=>rw[hx] at hj;cases hj
    | some _=>exact (List.getElem?_eq_some_iff.1 hx).1
   rw[List.length_take] at hjl
   simp only[Nat.zero_add]
   exact hall j (by omega)
  have:=hend Z G FP a w (hTe▸hs) hG hE
  rw[List.drop_eq_nil_of_le hml] at this
  exact this
 | succ fuel ih =>
  intro listed Z G FP a w hsz hf hc hm hs hG hE
  by_cases hall:∀k,k<m→k<all.length→listed.getD k false=true
  ·
   have hTe:runM (fun k=>listed.getD k false) 0 (all.take m) xs T0=runM (fun _=>true) 0 (all.take m) xs T0:=by
    funext t
    refine runM_at _ _ _ _ _ rfl fun j hj=>?_
    have hjl:j<(all.take m).length:=by
     unfold dstAt at hj
     cases hx:(all.take m)[j]? with
     | none=>rw[hx] at hj;cases hj
     | some _=>exact (List.getElem?_eq_some_iff.1 hx).1
    rw[List.length_take] at hjl
    simp only[Nat.zero_add]
    exact hall j (by omega) (by omega)
   have h:=hend Z G FP a w (hTe▸hs) hG hE
   by_cases hml:m≤all.length
   ·refine any_tail hA (all.drop m) m (fuel+1) listed a w rfl (Nat.le_refl _) hml hsz hf hc (fun i hi=>⟨fun hx=>?_,fun hx=>hall i hx hi⟩) h
    rcases Nat.lt_or_ge i m with h' | h'
    ·exact h'
    ·rw[hm i h' hi] at hx;cases hx
   ·have hd:all.drop m=[]:=List.drop_eq_nil_of_le (by omega)
    rw[hd] at h
    have hno:Region.ready .any all.toArray listed=[]:=by
     rw[List.eq_nil_iff_forall_not_mem]
     intro i hi
     obtain ⟨h1,o,ho,_⟩:=mem_ready.1 hi
     rw[List.getElem?_toArray] at ho
     have hi':=(List.getElem?_eq_some_iff.1 ho).1
     have h2:=hall i (by omega) hi'
     rw[Array.getD_eq_getD_getElem?,not_listed h1] at h2
     simp at h2
    exact ⟨fun _=>h,fun i hi=>by rw[hno] at hi;simp at hi⟩
  ·
   have hex:∃k,k<m∧k<all.length∧listed.getD k false=false:=by
    apply Classical.byContradiction
    intro hn
    refine hall fun k h1 h2=>?_
    cases hx:listed.getD k false with
    | true=>rfl
    | false=>exact absurd ⟨k,h1,h2,hx⟩ hn
   obtain ⟨k,⟨hk1,hk2,hk3⟩,hkl⟩:=exists_least (p:=fun k=>k<m∧k<all.length∧listed.getD k false=false) hex
   have hkr:k∈Region.ready .any all.toArray listed:=ready_least hA hsz hk2 hk3 (fun j hj=>by
    cases hx:listed.getD j false with
    | true=>rfl
    | false=>have:=hkl j ⟨by omega,by omega,hx⟩;omega)
   refine ⟨fun h0=>by rw[h0] at hkr;simp at hkr,fun i hi=>?_⟩
   obtain ⟨h1,o,ho,ha⟩:=mem_ready.1 hi
   rw[List.getElem?_toArray] at ho
   have hil:=(List.getElem?_eq_some_iff.1 ho).1
   have hnl:=not_listed h1
   have hnf:listed.getD i false=false:=by rw[Array.getD_eq_getD_getElem?,hnl];rfl
   have him:i<m:=by
    rcases Nat.lt_or_ge i m with h' | h'
    ·exact h'
    ·have:=ready_must hA hc hi (hA.ord k i _ o (by omega) (List.getElem?_eq_getElem hk2) ho (.inl h'))
     rw[hk3] at this;cases this
   have hoT:(all.take m)[i]?=some o:=by rw[List.getElem?_take,if_pos him];exact ho
   obtain ⟨x,hx,hcert⟩:=CertL_at (all.take m) xs 0 i T0 o hc0 hoT
   obtain ⟨hok,hnd⟩:=hA.ok i o ho
   have dstm:∀{j t},dstAt (all.take m) j=some t→∃oj,all[j]?=some oj∧oj.dst=some t∧j<m:=by
    intro j t hj
    unfold dstAt at hj
    cases hx:(all.take m)[j]? with
    | none=>rw[hx] at hj;cases hj
    | some oj =>
     rw[hx] at hj
     have hlt:=(List.getElem?_eq_some_iff.1 hx).1
     rw[List.length_take] at hlt
     rw[List.getElem?_take,if_pos (by omega)] at hx
     exact ⟨oj,hx,hj,by omega⟩
   have hsee:∀t∈seenT all o,runM (fun k=>decide (k<0+i)) 0 (all.take m) xs T0 t=runM (fun k=>listed.getD k false) 0 (all.take m) xs T0 t:=by
    intro t ht
    refine runM_at _ _ _ _ _ rfl fun j hj=>?_
    obtain ⟨oj,hoj,hd,hjm⟩:=dstm hj
    simp only[Nat.zero_add]
    rcases Nat.lt_trichotomy j i with h' | h' | h'
    ·have:=ready_must hA hc hi (hA.ord j i oj o h' hoj ho (.inr (by simp[confB,hd,ht])))
     rw[this];simp[h']
    ·subst h';rw[hnf];simp
    ·have hjl:=(List.getElem?_eq_some_iff.1 hoj).1
     cases hx:listed.getD j false with
     | false=>simp;omega
     | true =>
      have:=closed_must hA hc j i oj hoj (hc j oj hoj hx) (hA.ord i j o oj h' ho hoj (.inr (by
       unfold confB
       rw[hd]
       simp[ht])))
      rw[hnf] at this;cases this
   have hcert':=CertG_congr hsee hcert
   have hdall:all.all (dstOk N)=true:=by
    rw[List.all_eq_true]
    intro o' ho'
    obtain ⟨j',hj'⟩:=List.mem_iff_getElem?.1 ho'
    have:=(hA.ok j' o' hj').1
    simp only[operOk,Bool.and_eq_true] at this
    exact this.1
   refine certG_run hdall ho hok hnd hcert' hs fun Z' G' FP' a' w' hs' hG' hE'=>?_
   have hadd:=left_add hnl
   refine ih (listed.setIfInBounds i true) Z' G' FP' a' w' (by simpa using hsz) (by omega) (closed_add hc (fun o' ho' e he hb=>by rw[ho] at ho';cases ho';exact ha e (by simpa using he) hb)) (fun j h1 h2=>?_) ?_ (hG.trans hG') (hE.trans hE')
   ·cases hx:(listed.setIfInBounds i true).getD j false with
    | false=>rfl
    | true =>
     rcases getD_set_listed hx with rfl | hx
     ·omega
     ·rw[hm j h1 h2] at hx;cases hx
   ·have e:runM (fun k=>(listed.setIfInBounds i true).getD k false) 0 (all.take m) xs T0=updO (runM (fun k=>listed.getD k false) 0 (all.take m) xs T0) o.dst x:=by
     refine runM_add (all.take m) xs 0 i T0 o x hoT hx ?_ ?_ ?_ ?_
     ·simp only[Nat.zero_add];exact getD_set_self (by omega)
     ·simp only[Nat.zero_add];exact hnf
     ·intro k hk
      simp only[Nat.zero_add] at hk
      simp only[Array.getD_eq_getD_getElem?,Array.getElem?_setIfInBounds_ne (Ne.symm hk)]
     ·intro k hk hS t ht hdk
      simp only[Nat.zero_add] at hS
      obtain ⟨ok,hok',hd,_⟩:=dstm hdk
      have:=closed_must hA hc k i ok hok' (hc k ok hok' hS) (hA.ord i k o ok hk ho hok' (.inr (by
       unfold confB
       rw[ht]
       simp[hd])))
      rw[hnf] at this;cases this
    rw[e];exact hs'
end go
theorem HW.anyCore {id:Nat} {all:List Oper} {T:Nat→HV} {xs:List HV} {n' m:Nat} (hm:P.follows .mixedOrders=true) (hA:AnyOk N m all) (hc:CertL P H all (all.take m) T xs)
  (hex:ex P N L Q n' [.ops all (all.drop m)] (runM (fun _=>true) 0 (all.take m) xs T) H):HW P N L (.region id all.toArray true) Q T H:=by
 intro ro mm B Z G FP ds a w hB' hL hs
 have hEv:Evo Z FP w Z FP { w with drawn:=w.drawn+1 }:=⟨rfl,rfl,rfl,Nat.le_refl _,fun _ _ _=>rfl,fun _ h=>h,fun _ h=>.inl h,fun id b hb=>.inr ⟨id,hb⟩⟩
 have hi:HInv Z G FP H { w with drawn:=w.drawn+1 }:=hs.inv.keep (Nat.le_refl _) (fun _ _=>rfl)
 have hs':=hs.evo hi (GLe.refl _) hEv
 have hallok:(all.all fun o=>operOk N o && noDefer o)=true:=by
  rw[List.all_eq_true]
  intro o ho
  obtain ⟨j,hj⟩:=List.mem_iff_getElem?.1 ho
  have:=hA.ok j o hj
  simp[this.1,this.2]
 have hdrop:((all.drop m).all fun o=>operOk N o && noDefer o)=true:=by
  rw[List.all_eq_true]
  intro o ho
  exact List.all_eq_true.1 hallok o (List.mem_of_mem_drop ho)
 refine wpIn_region_any hm ?_
 refine any_head (m:=m) (B:=B) (Z0:=Z) (G0:=G) (FP0:=FP) (ds:=ds) (w0:=w) hA hc ?_ _ _ Z G FP _ _ (by simp) ?_ ?_ (fun j h1 h2=>?_) ?_ (GLe.refl _) hEv
 ·intro Z1 G1 FP1 a1 w1 hs1 hG1 hE1
  have:=ex_run n' [.ops all (all.drop m)] _ H hex (by simp[itemOk,hallok,hdrop]) ro mm B Z G FP w Z1 G1 FP1 ds a1 w1 (hB'.evo hE1) hs1 (GLt.of hL hG1) hE1
  simp only[M] at this
  exact this
 ·have:∀k:Nat,left (Array.replicate k false)=k:=by intro k;simp[left]
  rw[this];simp
 ·intro j o hj hl
  exfalso
  have hjl:=(List.getElem?_eq_some_iff.1 hj).1
  simp[Array.getD_eq_getD_getElem?,hjl] at hl
 ·simp[Array.getD_eq_getD_getElem?,h2]
 ·have e:runM (fun k=>(Array.replicate all.toArray.size false).getD k false) 0 (all.take m) xs T=T:=by
   funext t
   rw[runM_no]
   intro j _
   simp only[Array.getD_eq_getD_getElem?]
   by_cases hlt:0+j<all.toArray.size
   ·have:0+j<all.length:=by simpa using hlt
    rw[Array.getElem?_eq_getElem (by simpa using hlt)]
    simp
   ·rw[Array.getElem?_eq_none (by simpa using hlt)];rfl
  rw[e]
  exact hs'
theorem HW.anyOrder {id:Nat} {all:List Oper} {T:Nat→HV} (n m:Nat) (hm:P.follows .mixedOrders=true) (hB:anyB N m all=true)
  (h:ex P N L Q n [.quiet all (all.take m),.ops all (all.drop m)] T H):HW P N L (.region id all.toArray true) Q T H:=by
 obtain ⟨xs,n',hc,hex⟩:=ex_cert (all.take m) 0 n T h
 exact HW.anyCore hm (anyB_spec hB) hc hex
theorem HW.quiet {id:Nat} {all:List Oper} {T:Nat→HV} (n:Nat) (hm:P.follows .mixedOrders=true) (hB:anyB N all.length all=true)
  (h:ex P N L Q n [.quiet all all] T H):HW P N L (.region id all.toArray true) Q T H:=by
 obtain ⟨xs,n',hc,hex⟩:=ex_cert all 0 n T h
 have e:all.take all.length=all:=List.take_length
 refine HW.anyCore (m:=all.length) (n':=n'+1) (xs:=xs) hm (anyB_spec hB) (by rw[e];exact hc) ?_
 rw[e,List.drop_length]
 exact hex
end
end Go.Proofs.YtmapdjdnnhlpiaaGreatDoor
