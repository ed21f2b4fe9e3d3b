/- Parts of the proof: Mb, HiCs, Mc, HiDa, HiDb, HiMp. -/
import Derived.Test.YtmapdjdnnhlpiaaGreatDoorZr08
import Derived.Shelf.Strconv.AtoiAll
import Derived.Lib.AtoiErrMem
import Derived.Test.YtmapdjdnnhlpiaaGreatDoorZr05
set_option linter.unusedSectionVars false
set_option linter.unusedVariables false
set_option linter.unusedSimpArgs false
namespace Go.Proofs.YtmapdjdnnhlpiaaGreatDoor
open Go.RowKit Go.Shelf
set_option maxRecDepth 8000
def tErr:TypeId:=laysAtoi_ren.t 168
theorem Evo_below {Z:Nat→Prop} {FP:Nat→List Nat} {w w' : World} (h:Below w.heap.size w w'):Evo Z FP w Z FP w' :=
 ⟨h.os,h.tape,h.output,h.size,fun b hb _=>h.block b hb,fun _ h=>h,fun _ h=>.inl h,fun id b hb=>.inr ⟨id,hb⟩⟩
theorem RV_pair {Z:Nat→Prop} {G:List (Option OG)} {w:World} {a b:HV} {x y:Value} (h1:RV Z G w a x []) (h2:RV Z G w b y []):RV Z G w (.tu [a,b]) (.tuple #[x,y]) []:=by
 simp only[RV,RL]
 exact ⟨_,rfl,x,[y],[],[],rfl,rfl,h1,y,[],[],[],rfl,rfl,h2,rfl,rfl⟩
theorem RV_val {Z:Nat→Prop} {G:List (Option OG)} {w:World} (x:Value):RV Z G w (.v x) x []:=by simp[RV]
theorem RV_icany {Z:Nat→Prop} {G:List (Option OG)} {w:World} (t:TypeId) (x:Value):RV Z G w (.ic t .any) (.iface t x) []:=by
 simp only[RV];exact ⟨trivial,x,rfl,trivial⟩
def atoiV (s:List UInt8):HV :=
 match Lib.atoiAll s with
 | .ok v=>.tu [.v (.int .i64 v),.v .nilIface]
 | Lib.NumEnd.syntax=>.tu [.v (.int .i64 0),.ic tErr .any]
 | .range=>.tu [.v (.int .i64 (Lib.atoiSat s)),.ic tErr .any]
theorem strconvAtoi (s:List UInt8) (hs:s.length≤1000000):HFn Tryz.prog 70 [.v (str s)] (atoiV s):=by
 refine ⟨enters (fn:=Tryz.f70) (by kernel_rfl) rfl rfl,fun Z G FP w vals hi ha=>?_⟩
 simp only[RL,RV] at ha
 obtain ⟨y1,ys1,f1,f2,rfl,hf,⟨_,rfl⟩,rfl,_⟩:=ha
 have hsz:(⟨s.toArray⟩:ByteArray).size=s.length:=by simp[ByteArray.size]
 have fin:∀(v:Value) (w' : World),RV Z G w' (atoiV s) v []→Below w.heap.size w w'→Post Z G FP [] w (fun r _=>r=atoiV s) (.returned v) w':=by
  intro v w' hv hb
  exact ⟨v,_,[],Z,G,FP,[],rfl,rfl,rfl,hi.keep hb.size (fun b hb'=>hb.block b (by
   rcases hb' with h | ⟨id,h⟩
   ·exact hi.zlt b h
   ·exact hi.flt id b h)),hv,by simp,by simp,by simp,GLe.refl _,Evo_below hb⟩
 cases h:Lib.atoiAll s with
 | ok v =>
  refine Calls.mono (Any.strconv_Atoi_ok laysAtoi ⟨s.toArray⟩ (by omega) v h w) ?_
  rintro e w' ⟨rfl,hw⟩
  refine fin _ w' ?_ ?_
  ·unfold atoiV;rw[h];exact RV_pair (RV_val _) (RV_val _)
  ·rcases hw with rfl | ⟨t,rfl⟩
   ·exact Below.refl _ _
   ·exact Lib.bytesWorld_below _ _ _
 | range =>
  obtain ⟨_,ev,hv,hev⟩:=hi.glob.ifc 3 (by decide)
  refine Calls.mono (Any.strconv_Atoi_range laysAtoi ⟨s.toArray⟩ (by omega) h ev w hv hev) ?_
  rintro e w' ⟨N,rfl,_,_,hb⟩
  refine fin _ w' ?_ hb
  unfold atoiV;rw[h];exact RV_pair (RV_val _) (RV_icany _ _)
 | _ =>
  obtain ⟨_,ev,hv,hev⟩:=hi.glob.ifc 2 (by decide)
  refine Calls.mono (Any.strconv_Atoi_syntax laysAtoi ⟨s.toArray⟩ (by omega) h ev w hv hev) ?_
  rintro e w' ⟨N,rfl,_,_,hb⟩
  refine fin _ w' ?_ hb
  unfold atoiV;rw[h];exact RV_pair (RV_val _) (RV_icany _ _)
theorem numGet (s:List UInt8) (hs:s.length≤1000000):HFn Tryz.prog 54 [.v (str s)] (.tu [.v (.int .i64 (numB s).1),.v (.bool (numB s).2)]):=by
 have hn:=atoi_num s
 have ha:=strconvAtoi s hs
 unfold atoiV at ha
 refine HCalls_body (fn:=Tryz.f54) 19 [2,3] (by kernel_rfl) rfl (by kernel_rfl) (HW.run 400 (by kernel_rfl) ?_)
 simp (config:={ decide:=true }) only[go_sem,Int.reduceToNat,Nat.reduceAdd,Nat.reduceSub,Nat.reduceMul,Nat.reduceBEq,reduceIte,reduceCtorEq]
 cases h:Lib.atoiAll s with
 | ok v =>
  rw[h] at hn ha
  refine callX_fn 3 (ha) (by simp only[go_sem]) rfl ?_
  simp (config:={ decide:=true }) only[go_sem,Int.reduceToNat,Nat.reduceAdd,Nat.reduceSub,Nat.reduceMul,Nat.reduceBEq,reduceIte,reduceCtorEq]
  refine callX_fn 3 (numShape s hs) (by simp only[go_sem]) rfl ?_
  simp only[numOf] at hn
  cases hsh:shapeB s with
  | true =>
   simp (config:={ decide:=true }) only[go_sem,Int.reduceToNat,Nat.reduceAdd,Nat.reduceSub,Nat.reduceMul,Nat.reduceBEq,reduceIte,reduceCtorEq]
   rw[hn,hsh];rfl
  | false =>
   simp (config:={ decide:=true }) only[go_sem,Int.reduceToNat,Nat.reduceAdd,Nat.reduceSub,Nat.reduceMul,Nat.reduceBEq,reduceIte,reduceCtorEq]
   rw[hn,hsh];rfl
 | range =>
  rw[h] at hn ha
  refine callX_fn 3 (ha) (by simp only[go_sem]) rfl ?_
  simp (config:={ decide:=true }) only[go_sem,Int.reduceToNat,Nat.reduceAdd,Nat.reduceSub,Nat.reduceMul,Nat.reduceBEq,reduceIte,reduceCtorEq]
  rw[hn];rfl
 | _ =>
  rw[h] at hn ha
  refine callX_fn 3 (ha) (by simp only[go_sem]) rfl ?_
  simp (config:={ decide:=true }) only[go_sem,Int.reduceToNat,Nat.reduceAdd,Nat.reduceSub,Nat.reduceMul,Nat.reduceBEq,reduceIte,reduceCtorEq]
  rw[hn];rfl
end Go.Proofs.YtmapdjdnnhlpiaaGreatDoor
namespace Go.Proofs.YtmapdjdnnhlpiaaGreatDoor
open Go.RowKit
set_option maxRecDepth 8000
def preB (s p:List UInt8):Bool:=decide (p.length≤s.length) && decide (s.take p.length=p)
def sufB (s p:List UInt8):Bool:=decide (p.length≤s.length) && decide (s.drop (s.length-p.length)=p)
theorem hasPrefix (s p:List UInt8):HFn Tryz.prog 139 [.v (str s),.v (str p)] (.v (.bool (preB s p))):=by
 refine HCalls_body (fn:=Tryz.f139) 18 [4] (by kernel_rfl) rfl (by kernel_rfl) (HW.run 400 (by kernel_rfl) ?_)
 unfold preB
 by_cases h:p.length≤s.length
 ·have h1:((p.length:Int)≤(s.length:Int))=True:=by simp only[eq_iff_iff,iff_true];omega
  simp (config:={ decide:=true }) only[go_sem,Int.reduceToNat,Nat.reduceAdd,Nat.reduceSub,Nat.reduceMul,Nat.reduceBEq,reduceIte,reduceCtorEq,h1]
  simp[h]
 ·have h1:((p.length:Int)≤(s.length:Int))=False:=by simp only[eq_iff_iff,iff_false];omega
  simp (config:={ decide:=true }) only[go_sem,Int.reduceToNat,Nat.reduceAdd,Nat.reduceSub,Nat.reduceMul,Nat.reduceBEq,reduceIte,reduceCtorEq,h1]
  simp[h]
theorem cutPrefixL (s p:List UInt8):HFn Tryz.prog 123 [.v (str s),.v (str p)] (.tu [.v (str (if preB s p=true then s.drop p.length else s)),.v (.bool (preB s p))]):=by
 refine HCalls_body (fn:=Tryz.f123) 15 [4,5] (by kernel_rfl) rfl (by kernel_rfl) (HW.run 400 (by kernel_rfl) ?_)
 simp (config:={ decide:=true }) only[go_sem,Int.reduceToNat,Nat.reduceAdd,Nat.reduceSub,Nat.reduceMul,Nat.reduceBEq,reduceIte,reduceCtorEq]
 refine callX_fn 3 (hasPrefix s p) (by simp only[go_sem]) rfl ?_
 cases h:preB s p with
 | false=>simp (config:={ decide:=true }) only[go_sem,Int.reduceToNat,Nat.reduceAdd,Nat.reduceSub,Nat.reduceMul,Nat.reduceBEq,reduceIte,reduceCtorEq]
 | true =>
  simp (config:={ decide:=true }) only[go_sem,Int.reduceToNat,Nat.reduceAdd,Nat.reduceSub,Nat.reduceMul,Nat.reduceBEq,reduceIte,reduceCtorEq]
  have:p.length≤s.length:=by unfold preB at h;simp at h;exact h.1
  omega
theorem cutPrefix (s p:List UInt8):HFn Tryz.prog 111 [.v (str s),.v (str p)] (.tu [.v (str (if preB s p=true then s.drop p.length else s)),.v (.bool (preB s p))]):=by
 refine HCalls_body (fn:=Tryz.f111) 11 [4,5] (by kernel_rfl) rfl (by kernel_rfl) (HW.run 400 (by kernel_rfl) ?_)
 simp (config:={ decide:=true }) only[go_sem,Int.reduceToNat,Nat.reduceAdd,Nat.reduceSub,Nat.reduceMul,Nat.reduceBEq,reduceIte,reduceCtorEq]
 refine callX_fn 3 (cutPrefixL s p) (by simp only[go_sem]) rfl ?_
 simp (config:={ decide:=true }) only[go_sem,Int.reduceToNat,Nat.reduceAdd,Nat.reduceSub,Nat.reduceMul,Nat.reduceBEq,reduceIte,reduceCtorEq]
theorem hasSuffix (s p:List UInt8) (hs:s.length≤1000000):HFn Tryz.prog 122 [.v (str s),.v (str p)] (.v (.bool (sufB s p))):=by
 refine HCalls_body (fn:=Tryz.f122) 21 [4] (by kernel_rfl) rfl (by kernel_rfl) (HW.run 400 (by kernel_rfl) ?_)
 unfold sufB
 by_cases h:p.length≤s.length
 ·have h1:((p.length:Int)≤(s.length:Int))=True:=by simp only[eq_iff_iff,iff_true];omega
  have h2:IntKind.i64.wrap ((s.length:Int)-(p.length:Int))=(s.length:Int)-(p.length:Int):=w64 (by omega) (by omega)
  have h3:((s.length:Int)-(p.length:Int)).toNat=s.length-p.length:=by omega
  simp (config:={ decide:=true }) only[go_sem,Int.reduceToNat,Nat.reduceAdd,Nat.reduceSub,Nat.reduceMul,Nat.reduceBEq,reduceIte,reduceCtorEq,h1,h2,h3]
  refine ⟨⟨by omega,by omega⟩,?_⟩
  simp[h]
 ·have h1:((p.length:Int)≤(s.length:Int))=False:=by simp only[eq_iff_iff,iff_false];omega
  simp (config:={ decide:=true }) only[go_sem,Int.reduceToNat,Nat.reduceAdd,Nat.reduceSub,Nat.reduceMul,Nat.reduceBEq,reduceIte,reduceCtorEq,h1]
  simp[h]
theorem cutSuffixL (s p:List UInt8) (hs:s.length≤1000000):HFn Tryz.prog 110 [.v (str s),.v (str p)] (.tu [.v (str (if sufB s p=true then s.take (s.length-p.length) else s)),.v (.bool (sufB s p))]):=by
 refine HCalls_body (fn:=Tryz.f110) 18 [4,5] (by kernel_rfl) rfl (by kernel_rfl) (HW.run 400 (by kernel_rfl) ?_)
 simp (config:={ decide:=true }) only[go_sem,Int.reduceToNat,Nat.reduceAdd,Nat.reduceSub,Nat.reduceMul,Nat.reduceBEq,reduceIte,reduceCtorEq]
 refine callX_fn 3 (hasSuffix s p hs) (by simp only[go_sem]) rfl ?_
 cases h:sufB s p with
 | false=>simp (config:={ decide:=true }) only[go_sem,Int.reduceToNat,Nat.reduceAdd,Nat.reduceSub,Nat.reduceMul,Nat.reduceBEq,reduceIte,reduceCtorEq]
 | true =>
  have hl:p.length≤s.length:=by unfold sufB at h;simp at h;exact h.1
  have h2:IntKind.i64.wrap ((s.length:Int)-(p.length:Int))=(s.length:Int)-(p.length:Int):=w64 (by omega) (by omega)
  have h3:((s.length:Int)-(p.length:Int)).toNat=s.length-p.length:=by omega
  simp (config:={ decide:=true }) only[go_sem,Int.reduceToNat,Nat.reduceAdd,Nat.reduceSub,Nat.reduceMul,Nat.reduceBEq,reduceIte,reduceCtorEq,h2,h3]
  omega
theorem cutSuffix (s p:List UInt8) (hs:s.length≤1000000):HFn Tryz.prog 90 [.v (str s),.v (str p)] (.tu [.v (str (if sufB s p=true then s.take (s.length-p.length) else s)),.v (.bool (sufB s p))]):=by
 refine HCalls_body (fn:=Tryz.f90) 11 [4,5] (by kernel_rfl) rfl (by kernel_rfl) (HW.run 400 (by kernel_rfl) ?_)
 simp (config:={ decide:=true }) only[go_sem,Int.reduceToNat,Nat.reduceAdd,Nat.reduceSub,Nat.reduceMul,Nat.reduceBEq,reduceIte,reduceCtorEq]
 refine callX_fn 3 (cutSuffixL s p hs) (by simp only[go_sem]) rfl ?_
 simp (config:={ decide:=true }) only[go_sem,Int.reduceToNat,Nat.reduceAdd,Nat.reduceSub,Nat.reduceMul,Nat.reduceBEq,reduceIte,reduceCtorEq]
def insB (s:List UInt8):List UInt8 :=
 if 2≤s.length∧s.head?=some 91∧s.getLast?=some 93 then (s.drop 1).take (s.length-2) else []
theorem preB_one (s:List UInt8) (c:UInt8):preB s [c]=decide (s.head?=some c):=by
 cases s with
 | nil=>rfl
 | cons x r=>simp[preB]
theorem sufB_one (s:List UInt8) (c:UInt8):sufB s [c]=decide (s.getLast?=some c):=by
 rcases List.eq_nil_or_concat s with rfl | ⟨l,x,rfl⟩
 ·rfl
 ·simp[sufB,List.getLast?_concat]
theorem within (s:List UInt8) (hs:s.length≤1000000):HFn Tryz.prog 92 [.v (str s)] (.v (str (insB s))):=by
 refine HCalls_body (fn:=Tryz.f92) 23 [2] (by kernel_rfl) rfl (by kernel_rfl) (HW.run 400 (by kernel_rfl) ?_)
 simp (config:={ decide:=true }) only[go_sem,Int.reduceToNat,Nat.reduceAdd,Nat.reduceSub,Nat.reduceMul,Nat.reduceBEq,reduceIte,reduceCtorEq]
 refine callX_fn 3 (cutPrefix s [91]) (by simp only[go_sem]) rfl ?_
 simp (config:={ decide:=true }) only[go_sem,Int.reduceToNat,Nat.reduceAdd,Nat.reduceSub,Nat.reduceMul,Nat.reduceBEq,reduceIte,reduceCtorEq]
 refine callX_fn 3 (cutSuffix (if preB s [91]=true then s.drop ([91]:List UInt8).length else s) [93] (by split <;> first | exact hs | (rw[List.length_drop];omega))) (by simp only[go_sem]) rfl ?_
 have e1:=preB_one s 91
 cases h1:preB s [91] with
 | false =>
  simp (config:={ decide:=true }) only[go_sem,Int.reduceToNat,Nat.reduceAdd,Nat.reduceSub,Nat.reduceMul,Nat.reduceBEq,reduceIte,reduceCtorEq]
  rw[h1] at e1
  have:¬s.head?=some 91:=by simpa using e1.symm
  unfold insB
  rw[if_neg (fun h=>this h.2.1)]
 | true =>
  rw[h1] at e1
  have hh:s.head?=some 91:=by simpa using e1.symm
  obtain ⟨r,rfl⟩:∃r,s=91::r:=by
   cases s with
   | nil=>simp at hh
   | cons x r=>simp only[List.head?_cons,Option.some.injEq] at hh;exact ⟨r,by rw[hh]⟩
  have e2:=sufB_one r 93
  cases h2:sufB r [93] with
  | false =>
   simp (config:={ decide:=true }) only[go_sem,Int.reduceToNat,Nat.reduceAdd,Nat.reduceSub,Nat.reduceMul,Nat.reduceBEq,reduceIte,reduceCtorEq,h2]
   rw[h2] at e2
   have:¬r.getLast?=some 93:=by simpa using e2.symm
   unfold insB
   rw[if_neg]
   rintro ⟨k1,_,k3⟩
   cases r with
   | nil=>simp at k1
   | cons y r=>simp only[List.getLast?_cons_cons] at k3;exact this k3
  | true =>
   simp (config:={ decide:=true }) only[go_sem,Int.reduceToNat,Nat.reduceAdd,Nat.reduceSub,Nat.reduceMul,Nat.reduceBEq,reduceIte,reduceCtorEq,h2]
   rw[h2] at e2
   have:r.getLast?=some 93:=by simpa using e2.symm
   unfold insB
   cases r with
   | nil=>simp at this
   | cons y r =>
    rw[if_pos ⟨by simp,rfl,by simp only[List.getLast?_cons_cons];exact this⟩]
    simp
end Go.Proofs.YtmapdjdnnhlpiaaGreatDoor
namespace Go.Proofs.YtmapdjdnnhlpiaaGreatDoor
open Go.RowKit
set_option maxRecDepth 8000
abbrev lineV (op:Int) (rg loc lab:List UInt8) (n:Int):HV:=.ag [.v (.int .i64 op),.v (str rg),.v (str loc),.v (str lab),.v (.int .i64 n)]
abbrev atomV (th:Int) (nm:List UInt8) (n:Int):HV:=.ag [.v (.int .i64 th),.v (str nm),.v (.int .i64 n)]
def hasReg (op:Int):Bool:=decide (op=1) || decide (op=2) || decide (op=3) || decide (op=5) || decide (op=7)
def hasLoc (op:Int):Bool:=decide (op=2) || decide (op=3) || decide (op=4) || decide (op=5)
def hasLab (op:Int):Bool:=decide (8≤op) && decide (op≤11)
def hasN (op:Int):Bool:=decide (op=1) || decide (op=4) || decide (op=7)
def rb (r lo la nn a b c d e f g:Bool):Bool:=(a || !r && b) && (r || b) && (c || !lo && d) && (lo || d) && (e || !la && f) && (la || f) && (nn || g)
def rightB (op:Int) (rg loc lab:List UInt8) (n:Int):Bool :=
 decide (1≤op) && decide (op≤11) && rb (hasReg op) (hasLoc op) (hasLab op) (hasN op) (decide (0≤regB rg)) (decide (rg=[])) (nameB loc) (decide (loc=[])) (nameB lab) (decide (lab=[])) (decide (n=0))
theorem opsOf6 (rg loc lab:List UInt8) (n:Int):HFn Tryz.prog 93 [lineV 6 rg loc lab n] (.ic 162 (lineV 6 rg loc lab n)):=by
 refine HCalls_body (fn:=Tryz.f93) 37 [2] (by kernel_rfl) rfl (by kernel_rfl) (HW.run 400 (by kernel_rfl) ?_)
 simp (config:={ decide:=true }) only[go_sem,Int.reduceToNat,Nat.reduceAdd,Nat.reduceSub,Nat.reduceMul,Nat.reduceBEq,reduceIte,reduceCtorEq]
theorem opsOfM (op:Int) (rg loc lab:List UInt8) (n:Int) (h:1≤op∧op≤7∧op≠6):HFn Tryz.prog 93 [lineV op rg loc lab n] (.ic 163 (lineV op rg loc lab n)):=by
 refine HCalls_body (fn:=Tryz.f93) 37 [2] (by kernel_rfl) rfl (by kernel_rfl) (HW.run 400 (by kernel_rfl) ?_)
 obtain ⟨h1,h2,h3⟩:=h
 simp (config:={ decide:=true }) only[go_sem,Int.reduceToNat,Nat.reduceAdd,Nat.reduceSub,Nat.reduceMul,Nat.reduceBEq,reduceIte,reduceCtorEq,h1,h2,h3]
theorem opsOfJ (op:Int) (rg loc lab:List UInt8) (n:Int) (h:8≤op∧op≤11):HFn Tryz.prog 93 [lineV op rg loc lab n] (.ic 164 (lineV op rg loc lab n)):=by
 refine HCalls_body (fn:=Tryz.f93) 37 [2] (by kernel_rfl) rfl (by kernel_rfl) (HW.run 400 (by kernel_rfl) ?_)
 obtain ⟨h1,h2⟩:=h
 have h3:¬op=6:=by omega
 have h4:1≤op:=by omega
 have h5:¬op≤7:=by omega
 simp (config:={ decide:=true }) only[go_sem,Int.reduceToNat,Nat.reduceAdd,Nat.reduceSub,Nat.reduceMul,Nat.reduceBEq,reduceIte,reduceCtorEq,h1,h2,h3,h4,h5]
theorem opsOfN (op:Int) (rg loc lab:List UInt8) (n:Int) (h:op<1∨11<op):HFn Tryz.prog 93 [lineV op rg loc lab n] (.v .nilIface):=by
 refine HCalls_body (fn:=Tryz.f93) 37 [2] (by kernel_rfl) rfl (by kernel_rfl) (HW.run 400 (by kernel_rfl) ?_)
 have h3:¬op=6:=by omega
 rcases h with h | h
 ·have h4:¬1≤op:=by omega
  have h5:¬8≤op:=by omega
  simp (config:={ decide:=true }) only[go_sem,Int.reduceToNat,Nat.reduceAdd,Nat.reduceSub,Nat.reduceMul,Nat.reduceBEq,reduceIte,reduceCtorEq,h3,h4,h5]
 ·have h4:1≤op:=by omega
  have h5:¬op≤7:=by omega
  have h6:8≤op:=by omega
  have h7:¬op≤11:=by omega
  simp (config:={ decide:=true }) only[go_sem,Int.reduceToNat,Nat.reduceAdd,Nat.reduceSub,Nat.reduceMul,Nat.reduceBEq,reduceIte,reduceCtorEq,h3,h4,h5,h6,h7]
theorem fencesHas (op:Int) (rg loc lab:List UInt8) (n:Int):HFn Tryz.prog 195 [lineV op rg loc lab n] (.tu [.v (.bool false),.v (.bool false),.v (.bool false),.v (.bool false)]):=by
 refine HCalls_body (fn:=Tryz.f195) 6 [2,3,4,5] (by kernel_rfl) rfl (by kernel_rfl) (HW.run 400 (by kernel_rfl) ?_)
 simp (config:={ decide:=true }) only[go_sem,Int.reduceToNat,Nat.reduceAdd,Nat.reduceSub,Nat.reduceMul,Nat.reduceBEq,reduceIte,reduceCtorEq]
theorem jumpsHas (op:Int) (rg loc lab:List UInt8) (n:Int):HFn Tryz.prog 199 [lineV op rg loc lab n] (.tu [.v (.bool false),.v (.bool false),.v (.bool true),.v (.bool false)]):=by
 refine HCalls_body (fn:=Tryz.f199) 6 [2,3,4,5] (by kernel_rfl) rfl (by kernel_rfl) (HW.run 400 (by kernel_rfl) ?_)
 simp (config:={ decide:=true }) only[go_sem,Int.reduceToNat,Nat.reduceAdd,Nat.reduceSub,Nat.reduceMul,Nat.reduceBEq,reduceIte,reduceCtorEq]
theorem ops_moves {op:Int} (h:1≤op∧op≤7∧op≠6):op=1∨op=2∨op=3∨op=4∨op=5∨op=7:=by omega
theorem movesHas (op:Int) (rg loc lab:List UInt8) (n:Int) (h:1≤op∧op≤7∧op≠6):HFn Tryz.prog 197 [lineV op rg loc lab n] (.tu [.v (.bool (hasReg op)),.v (.bool (hasLoc op)),.v (.bool false),.v (.bool (hasN op))]):=by
 rcases ops_moves h with rfl | rfl | rfl | rfl | rfl | rfl
 all_goals
  refine HCalls_body (fn:=Tryz.f197) 42 [2,3,4,5] (by kernel_rfl) rfl (by kernel_rfl) (HW.run 400 (by kernel_rfl) ?_)
  simp (config:={ decide:=true }) only[go_sem,Int.reduceToNat,Nat.reduceAdd,Nat.reduceSub,Nat.reduceMul,Nat.reduceBEq,reduceIte,reduceCtorEq]
  refine HW.quiet 80 follows (by kernel_rfl) ?_
  simp (config:={ decide:=true }) only[go_sem,Int.reduceToNat,Nat.reduceAdd,Nat.reduceSub,Nat.reduceMul,Nat.reduceBEq,reduceIte,reduceCtorEq]
  rfl
theorem mFences:methodFn Tryz.prog 162 "fencepost/ops.has"=some 195:=by kernel_rfl
theorem mMoves:methodFn Tryz.prog 163 "fencepost/ops.has"=some 197:=by kernel_rfl
theorem mJumps:methodFn Tryz.prog 164 "fencepost/ops.has"=some 199:=by kernel_rfl
theorem reg_empty {rg:List UInt8} {p:Prop} (h:(0≤regB rg)=(true=true)) (hb:rg=[]):p:=by
 rw[hb] at h
 have hno:¬(0≤regB []):=by decide
 exact absurd (h.mpr rfl) hno
set_option maxHeartbeats 4000000 in
theorem opsRight (op:Int) (rg loc lab:List UInt8) (n:Int):HFn Tryz.prog 74 [lineV op rg loc lab n] (.v (.bool (rightB op rg loc lab n))):=by
 refine HCalls_body (fn:=Tryz.f74) 92 [2] (by kernel_rfl) rfl (by kernel_rfl) (HW.run 400 (by kernel_rfl) ?_)
 simp (config:={ decide:=true }) only[go_sem,Int.reduceToNat,Nat.reduceAdd,Nat.reduceSub,Nat.reduceMul,Nat.reduceBEq,reduceIte,reduceCtorEq]
 by_cases hN:op<1∨11<op
 ·refine callX_fn 3 (opsOfN op rg loc lab n hN) (by simp only[go_sem]) rfl ?_
  simp (config:={ decide:=true }) only[go_sem,Int.reduceToNat,Nat.reduceAdd,Nat.reduceSub,Nat.reduceMul,Nat.reduceBEq,reduceIte,reduceCtorEq]
  have:rightB op rg loc lab n=false:=by
   unfold rightB
   rcases hN with h | h
   ·simp[show ¬1≤op by omega]
   ·simp[show ¬op≤11 by omega]
  rw[this]
 have hr:rightB op rg loc lab n=rb (hasReg op) (hasLoc op) (hasLab op) (hasN op) (decide (0≤regB rg)) (decide (rg=[])) (nameB loc) (decide (loc=[])) (nameB lab) (decide (lab=[])) (decide (n=0)):=by
  unfold rightB
  simp[show 1≤op by omega,show op≤11 by omega]
 rw[hr]
 have nd:nameB loc=true→loc≠[]:=by rintro h rfl;cases h
 have nl:nameB lab=true→lab≠[]:=by rintro h rfl;cases h
 by_cases h6:op=6
 ·subst h6
  refine callX_fn 3 (opsOf6 rg loc lab n) (by simp only[go_sem]) rfl ?_
  simp (config:={ decide:=true }) only[go_sem,Int.reduceToNat,Nat.reduceAdd,Nat.reduceSub,Nat.reduceMul,Nat.reduceBEq,reduceIte,reduceCtorEq,mFences]
  refine callX_fn 3 (fencesHas 6 rg loc lab n) (by simp only[go_sem]) rfl ?_
  have e1:hasReg 6=false:=rfl
  have e2:hasLoc 6=false:=rfl
  have e3:hasLab 6=false:=rfl
  have e4:hasN 6=false:=rfl
  rw[e1,e2,e3,e4]
  simp (config:={ decide:=true }) only[go_sem,Int.reduceToNat,Nat.reduceAdd,Nat.reduceSub,Nat.reduceMul,Nat.reduceBEq,reduceIte,reduceCtorEq]
  all_goals
   refine callX_fn 3 (regPr rg) (by simp only[go_sem]) rfl ?_
   generalize hga:decide (0≤regB rg)=ga
   have hga' : (0≤regB rg)=(ga=true):=by rw[←hga];simp
   clear hga
   cases ga <;> by_cases hb:rg=[] <;> simp (config:={ decide:=true }) only[go_sem,Int.reduceToNat,Nat.reduceAdd,Nat.reduceSub,Nat.reduceMul,Nat.reduceBEq,reduceIte,reduceCtorEq,hga',hb] <;> first | (simp[rb,hb];done) | (exact reg_empty hga' hb) | skip
  all_goals
   refine callX_fn 3 (namePr loc) (by simp only[go_sem]) rfl ?_
   cases hc:nameB loc <;> by_cases hd:loc=[] <;> simp (config:={ decide:=true }) only[go_sem,Int.reduceToNat,Nat.reduceAdd,Nat.reduceSub,Nat.reduceMul,Nat.reduceBEq,reduceIte,reduceCtorEq,hd] <;> first | (simp[rb,hb,hd];done) | (exact absurd hd (nd hc)) | skip
  all_goals
   refine callX_fn 3 (namePr lab) (by simp only[go_sem]) rfl ?_
   cases he:nameB lab <;> by_cases hf:lab=[] <;> simp (config:={ decide:=true }) only[go_sem,Int.reduceToNat,Nat.reduceAdd,Nat.reduceSub,Nat.reduceMul,Nat.reduceBEq,reduceIte,reduceCtorEq,hf] <;> first | (simp[rb,hb,hd,hf];done) | (exact absurd hf (nl he)) | skip
 by_cases hM:op≤7
 ·have hM' : 1≤op∧op≤7∧op≠6:=by omega
  refine callX_fn 3 (opsOfM op rg loc lab n hM') (by simp only[go_sem]) rfl ?_
  simp (config:={ decide:=true }) only[go_sem,Int.reduceToNat,Nat.reduceAdd,Nat.reduceSub,Nat.reduceMul,Nat.reduceBEq,reduceIte,reduceCtorEq,mMoves]
  refine callX_fn 3 (movesHas op rg loc lab n hM') (by simp only[go_sem]) rfl ?_
  have e3:hasLab op=false:=by unfold hasLab;simp;omega
  rw[e3]
  cases hasReg op <;> cases hasLoc op <;> cases hasN op <;> simp (config:={ decide:=true }) only[go_sem,Int.reduceToNat,Nat.reduceAdd,Nat.reduceSub,Nat.reduceMul,Nat.reduceBEq,reduceIte,reduceCtorEq]
  all_goals
   refine callX_fn 3 (regPr rg) (by simp only[go_sem]) rfl ?_
   generalize hga:decide (0≤regB rg)=ga
   have hga' : (0≤regB rg)=(ga=true):=by rw[←hga];simp
   clear hga
   cases ga <;> by_cases hb:rg=[] <;> simp (config:={ decide:=true }) only[go_sem,Int.reduceToNat,Nat.reduceAdd,Nat.reduceSub,Nat.reduceMul,Nat.reduceBEq,reduceIte,reduceCtorEq,hga',hb] <;> first | (simp[rb,hb];done) | (exact reg_empty hga' hb) | skip
  all_goals
   refine callX_fn 3 (namePr loc) (by simp only[go_sem]) rfl ?_
   cases hc:nameB loc <;> by_cases hd:loc=[] <;> simp (config:={ decide:=true }) only[go_sem,Int.reduceToNat,Nat.reduceAdd,Nat.reduceSub,Nat.reduceMul,Nat.reduceBEq,reduceIte,reduceCtorEq,hd] <;> first | (simp[rb,hb,hd];done) | (exact absurd hd (nd hc)) | skip
  all_goals
   refine callX_fn 3 (namePr lab) (by simp only[go_sem]) rfl ?_
   cases he:nameB lab <;> by_cases hf:lab=[] <;> simp (config:={ decide:=true }) only[go_sem,Int.reduceToNat,Nat.reduceAdd,Nat.reduceSub,Nat.reduceMul,Nat.reduceBEq,reduceIte,reduceCtorEq,hf] <;> first | (simp[rb,hb,hd,hf];done) | (exact absurd hf (nl he)) | skip
 ·have hJ:8≤op∧op≤11:=by omega
  refine callX_fn 3 (opsOfJ op rg loc lab n hJ) (by simp only[go_sem]) rfl ?_
  simp (config:={ decide:=true }) only[go_sem,Int.reduceToNat,Nat.reduceAdd,Nat.reduceSub,Nat.reduceMul,Nat.reduceBEq,reduceIte,reduceCtorEq,mJumps]
  refine callX_fn 3 (jumpsHas op rg loc lab n) (by simp only[go_sem]) rfl ?_
  have e1:hasReg op=false:=by unfold hasReg;simp;omega
  have e2:hasLoc op=false:=by unfold hasLoc;simp;omega
  have e3:hasLab op=true:=by unfold hasLab;simp;omega
  have e4:hasN op=false:=by unfold hasN;simp;omega
  rw[e1,e2,e3,e4]
  simp (config:={ decide:=true }) only[go_sem,Int.reduceToNat,Nat.reduceAdd,Nat.reduceSub,Nat.reduceMul,Nat.reduceBEq,reduceIte,reduceCtorEq]
  all_goals
   refine callX_fn 3 (regPr rg) (by simp only[go_sem]) rfl ?_
   generalize hga:decide (0≤regB rg)=ga
   have hga' : (0≤regB rg)=(ga=true):=by rw[←hga];simp
   clear hga
   cases ga <;> by_cases hb:rg=[] <;> simp (config:={ decide:=true }) only[go_sem,Int.reduceToNat,Nat.reduceAdd,Nat.reduceSub,Nat.reduceMul,Nat.reduceBEq,reduceIte,reduceCtorEq,hga',hb] <;> first | (simp[rb,hb];done) | (exact reg_empty hga' hb) | skip
  all_goals
   refine callX_fn 3 (namePr loc) (by simp only[go_sem]) rfl ?_
   cases hc:nameB loc <;> by_cases hd:loc=[] <;> simp (config:={ decide:=true }) only[go_sem,Int.reduceToNat,Nat.reduceAdd,Nat.reduceSub,Nat.reduceMul,Nat.reduceBEq,reduceIte,reduceCtorEq,hd] <;> first | (simp[rb,hb,hd];done) | (exact absurd hd (nd hc)) | skip
  all_goals
   refine callX_fn 3 (namePr lab) (by simp only[go_sem]) rfl ?_
   cases he:nameB lab <;> by_cases hf:lab=[] <;> simp (config:={ decide:=true }) only[go_sem,Int.reduceToNat,Nat.reduceAdd,Nat.reduceSub,Nat.reduceMul,Nat.reduceBEq,reduceIte,reduceCtorEq,hf] <;> first | (simp[rb,hb,hd,hf];done) | (exact absurd hf (nl he)) | skip
end Go.Proofs.YtmapdjdnnhlpiaaGreatDoor
namespace Go.Proofs.YtmapdjdnnhlpiaaGreatDoor
open Go.RowKit
set_option maxRecDepth 8000
def atB (loc:List UInt8):List UInt8:=[91]++loc++[93]
def movB:List UInt8:=[109,111,118]
def xchgB:List UInt8:=[120,99,104,103]
def mfenceB:List UInt8:=[109,102,101,110,99,101]
def cmpB:List UInt8:=[99,109,112]
def jmpB:List UInt8:=[106,109,112]
def jeB:List UInt8:=[106,101]
def jneB:List UInt8:=[106,110,101]
def wordsO (op:Int) (rg loc lab:List UInt8) (n:Int):List (List UInt8) :=
 if op=1 then [movB,rg,textB n]
 else if op=2 then [movB,rg,atB loc]
 else if op=3 then [movB,atB loc,rg]
 else if op=4 then [movB,atB loc,textB n]
 else if op=5 then [xchgB,atB loc,rg]
 else if op=6 then [mfenceB]
 else if op=7 then [cmpB,rg,textB n]
 else if op=8 then [jmpB,lab]
 else if op=9 then [jeB,lab]
 else if op=10 then [jneB,lab]
 else [lab++[58]]
theorem rightB_op {op:Int} {rg loc lab:List UInt8} {n:Int} (h:rightB op rg loc lab n=true):1≤op∧op≤11:=by
 simp only[rightB,Bool.and_eq_true,decide_eq_true_eq] at h
 exact h.1
def lineW (op:Int) (rg loc lab:List UInt8) (n:Int):List (List UInt8):=if rightB op rg loc lab n=true then wordsO op rg loc lab n else []
theorem own_nil {f:FuncId} {args:List HV} (h:HFn Tryz.prog f args (.v (.slice none 0 0))):HFn Tryz.prog f args (owStrs []) :=
 HCalls.conv h fun x H' hx=>⟨_,rfl,.inr ⟨by rw[hx];rfl,by rw[hx];exact Conv.nilOw _ _⟩⟩
end Go.Proofs.YtmapdjdnnhlpiaaGreatDoor
namespace Go.Proofs.YtmapdjdnnhlpiaaGreatDoor
open Go.RowKit
section
variable {P:Program} {H:Heap} {k:List Item→KS} {all l:List Oper} {d:Option Nat} {r:List Item} {T:Nat→HV}
theorem exRq_sadd {t:TypeId} {c:Bool} {a b:List UInt8}:exRq k (bindO (binRes P .add t c (.v (str a)) (.v (str b))) fun v=>rv H True (.v v)) all d l r T H=(a.length+b.length≤9223372036854775807∧k (.quiet all l::r) (updO T d (.v (str (a++b)))) H):=by
 have e1:(⟨a.toArray⟩:ByteArray).size=a.length:=by simp[ByteArray.size]
 have e2:(⟨b.toArray⟩:ByteArray).size=b.length:=by simp[ByteArray.size]
 have e3:(⟨a.toArray⟩:ByteArray)++(⟨b.toArray⟩:ByteArray)=⟨(a++b).toArray⟩:=by
  apply ByteArray.ext
  apply Array.ext'
  simp[ByteArray.data_append]
 have e4:binRes P .add t c (.v (str a)) (.v (str b))=if a.length+b.length≤9223372036854775807 then some (str (a++b)) else none:=by
  show (if (⟨a.toArray⟩:ByteArray).size+(⟨b.toArray⟩:ByteArray).size≤9223372036854775807 then some (Value.string ((⟨a.toArray⟩:ByteArray)++(⟨b.toArray⟩:ByteArray))) else none)=_
  rw[e1,e2,e3];rfl
 rw[e4]
 by_cases h:a.length+b.length≤9223372036854775807
 ·simp only[h,if_true,bindO_some,true_and]
  show (True∧_)=_
  simp
 ·simp only[h,if_false,bindO_none,false_and]
  rfl
end
attribute [go_sem] exRq_sadd
end Go.Proofs.YtmapdjdnnhlpiaaGreatDoor
namespace Go.Proofs.YtmapdjdnnhlpiaaGreatDoor
open Go.RowKit
set_option maxRecDepth 8000
structure LT where
 op:Int
 rg:List UInt8
 loc:List UInt8
 lab:List UInt8
 n:Int
 deriving DecidableEq
abbrev lineT (l:LT):HV:=lineV l.op l.rg l.loc l.lab l.n
def LT.right (l:LT):Bool:=rightB l.op l.rg l.loc l.lab l.n
def zeroL:LT:=⟨0,[],[],[],0⟩
def moveB (a b:List UInt8):LT :=
 if insB a≠[] then (if (numB b).2=true then ⟨4,[],insB a,[],(numB b).1⟩ else ⟨3,b,insB a,[],0⟩)
 else if (numB b).2=true then ⟨1,a,[],[],(numB b).1⟩ else ⟨2,a,insB b,[],0⟩
def guessB:List (List UInt8)→LT
 | [k]=>if sufB k [58]=true then ⟨11,[],[],k.take (k.length-1),0⟩ else if k=mfenceB then ⟨6,[],[],[],0⟩ else zeroL
 | [k,l]=>if k=jmpB then ⟨8,[],[],l,0⟩ else if k=jeB then ⟨9,[],[],l,0⟩ else if k=jneB then ⟨10,[],[],l,0⟩ else zeroL
 | [k,a,b]=>if k=movB then moveB a b else if k=xchgB then ⟨5,b,insB a,[],0⟩ else if k=cmpB then (if (numB b).2=true then ⟨7,a,[],[],(numB b).1⟩ else zeroL) else zeroL
 | _=>zeroL
def getB (w:List (List UInt8)):LT×Bool:=if w≠[]∧(guessB w).right=true then (guessB w,true) else (zeroL,false)
set_option maxHeartbeats 2000000 in
theorem movePr (a b:List UInt8) (ha:a.length≤1000000) (hb:b.length≤1000000):HFn Tryz.prog 91 [.v (str a),.v (str b)] (lineT (moveB a b)):=by
 refine HCalls_bodyC (fn:=Tryz.f91) 41 [.cell 4 50] (by kernel_rfl) rfl rfl (by kernel_rfl) (HW.run 400 (by kernel_rfl) ?_)
 simp (config:={ decide:=true }) only[go_sem,Int.reduceToNat,Nat.reduceAdd,Nat.reduceSub,Nat.reduceMul,Nat.reduceBEq,reduceIte,reduceCtorEq]
 refine callX_fn 3 (numGet b hb) (by simp only[go_sem]) rfl ?_
 simp (config:={ decide:=true }) only[go_sem,Int.reduceToNat,Nat.reduceAdd,Nat.reduceSub,Nat.reduceMul,Nat.reduceBEq,reduceIte,reduceCtorEq]
 refine callX_fn 3 (within a ha) (by simp only[go_sem]) rfl ?_
 simp (config:={ decide:=true }) only[go_sem,Int.reduceToNat,Nat.reduceAdd,Nat.reduceSub,Nat.reduceMul,Nat.reduceBEq,reduceIte,reduceCtorEq]
 refine callX_fn 3 (within b hb) (by simp only[go_sem]) rfl ?_
 unfold moveB
 cases hn:(numB b).2 with
 | true =>
  by_cases hi:insB a=[]
  ·simp (config:={ decide:=true }) only[go_sem,Int.reduceToNat,Nat.reduceAdd,Nat.reduceSub,Nat.reduceMul,Nat.reduceBEq,reduceIte,reduceCtorEq,hi]
  ·simp (config:={ decide:=true }) only[go_sem,Int.reduceToNat,Nat.reduceAdd,Nat.reduceSub,Nat.reduceMul,Nat.reduceBEq,reduceIte,reduceCtorEq,hi]
   simp[hi]
 | false =>
  by_cases hi:insB a=[]
  ·simp (config:={ decide:=true }) only[go_sem,Int.reduceToNat,Nat.reduceAdd,Nat.reduceSub,Nat.reduceMul,Nat.reduceBEq,reduceIte,reduceCtorEq,hi]
  ·simp (config:={ decide:=true }) only[go_sem,Int.reduceToNat,Nat.reduceAdd,Nat.reduceSub,Nat.reduceMul,Nat.reduceBEq,reduceIte,reduceCtorEq,hi]
   simp[hi]
theorem strs1 {a:List UInt8}:strs [a]=[[.v (str a)]]:=rfl
theorem strs2 {a b:List UInt8}:strs [a,b]=[[.v (str a)],[.v (str b)]]:=rfl
theorem strs3 {a b c:List UInt8}:strs [a,b,c]=[[.v (str a)],[.v (str b)],[.v (str c)]]:=rfl
set_option maxHeartbeats 4000000 in
theorem guessPr (w:List (List UInt8)) (hw:w≠[]) (hl:∀s∈w,s.length≤1000000) (hn:w.length≤1000000):HFn Tryz.prog 73 [.sl (strs w)] (lineT (guessB w)):=by
 match w,hw with
 | [k],_ =>
  rw[strs1]
  refine HCalls_bodyC (fn:=Tryz.f73) 85 [.cell 2 50] (by kernel_rfl) rfl rfl (by kernel_rfl) (HW.run 400 (by kernel_rfl) ?_)
  simp (config:={ decide:=true }) only[go_sem,Int.reduceToNat,Nat.reduceAdd,Nat.reduceSub,Nat.reduceMul,Nat.reduceBEq,reduceIte,reduceCtorEq]
  refine callX_fn 3 (cutSuffix k [58] (hl k (by simp))) (by simp only[go_sem]) rfl ?_
  simp only[guessB]
  cases hs:sufB k [58] with
  | true =>
   simp (config:={ decide:=true }) only[go_sem,Int.reduceToNat,Nat.reduceAdd,Nat.reduceSub,Nat.reduceMul,Nat.reduceBEq,reduceIte,reduceCtorEq]
  | false =>
   by_cases hm:k=mfenceB
   ·have hm' : (k=[109,102,101,110,99,101])=True:=by simp only[eq_iff_iff,iff_true];exact hm
    simp (config:={ decide:=true }) only[go_sem,Int.reduceToNat,Nat.reduceAdd,Nat.reduceSub,Nat.reduceMul,Nat.reduceBEq,reduceIte,reduceCtorEq,hm']
    simp[hm]
   ·have hm' : (k=[109,102,101,110,99,101])=False:=by simp only[eq_iff_iff,iff_false];exact hm
    simp (config:={ decide:=true }) only[go_sem,Int.reduceToNat,Nat.reduceAdd,Nat.reduceSub,Nat.reduceMul,Nat.reduceBEq,reduceIte,reduceCtorEq,hm']
    simp[hm,zeroL]
 | [k,l],_ =>
  rw[strs2]
  refine HCalls_bodyC (fn:=Tryz.f73) 85 [.cell 2 50] (by kernel_rfl) rfl rfl (by kernel_rfl) (HW.run 400 (by kernel_rfl) ?_)
  simp only[guessB]
  by_cases h1:k=jmpB
  ·subst h1
   simp (config:={ decide:=true }) only[go_sem,Int.reduceToNat,Nat.reduceAdd,Nat.reduceSub,Nat.reduceMul,Nat.reduceBEq,reduceIte,reduceCtorEq,jmpB]
  have e1:(k=[106,109,112])=False:=by simp only[eq_iff_iff,iff_false];exact h1
  by_cases h2:k=jeB
  ·subst h2
   simp (config:={ decide:=true }) only[go_sem,Int.reduceToNat,Nat.reduceAdd,Nat.reduceSub,Nat.reduceMul,Nat.reduceBEq,reduceIte,reduceCtorEq,jeB]
  have e2:(k=[106,101])=False:=by simp only[eq_iff_iff,iff_false];exact h2
  by_cases h3:k=jneB
  ·subst h3
   simp (config:={ decide:=true }) only[go_sem,Int.reduceToNat,Nat.reduceAdd,Nat.reduceSub,Nat.reduceMul,Nat.reduceBEq,reduceIte,reduceCtorEq,jneB]
  have e3:(k=[106,110,101])=False:=by simp only[eq_iff_iff,iff_false];exact h3
  simp (config:={ decide:=true }) only[go_sem,Int.reduceToNat,Nat.reduceAdd,Nat.reduceSub,Nat.reduceMul,Nat.reduceBEq,reduceIte,reduceCtorEq,e1,e2,e3]
  simp[h1,h2,h3,zeroL]
 | [k,a,b],_ =>
  have ha:=hl a (by simp)
  have hb:=hl b (by simp)
  rw[strs3]
  refine HCalls_bodyC (fn:=Tryz.f73) 85 [.cell 2 50] (by kernel_rfl) rfl rfl (by kernel_rfl) (HW.run 400 (by kernel_rfl) ?_)
  simp only[guessB]
  by_cases h1:k=movB
  ·subst h1
   simp (config:={ decide:=true }) only[go_sem,Int.reduceToNat,Nat.reduceAdd,Nat.reduceSub,Nat.reduceMul,Nat.reduceBEq,reduceIte,reduceCtorEq,movB]
   refine HW.anyOrder 80 7 follows (by kernel_rfl) ?_
   simp (config:={ decide:=true }) only[go_sem,Int.reduceToNat,Nat.reduceAdd,Nat.reduceSub,Nat.reduceMul,Nat.reduceBEq,reduceIte,reduceCtorEq]
   refine callQ_fn 3 (movePr a b ha hb) (by simp only[go_sem]) rfl rfl ?_
   simp (config:={ decide:=true }) only[go_sem,Int.reduceToNat,Nat.reduceAdd,Nat.reduceSub,Nat.reduceMul,Nat.reduceBEq,reduceIte,reduceCtorEq]
  have e1:(k=[109,111,118])=False:=by simp only[eq_iff_iff,iff_false];exact h1
  by_cases h2:k=xchgB
  ·subst h2
   simp (config:={ decide:=true }) only[go_sem,Int.reduceToNat,Nat.reduceAdd,Nat.reduceSub,Nat.reduceMul,Nat.reduceBEq,reduceIte,reduceCtorEq,xchgB]
   refine HW.anyOrder 80 8 follows (by kernel_rfl) ?_
   simp (config:={ decide:=true }) only[go_sem,Int.reduceToNat,Nat.reduceAdd,Nat.reduceSub,Nat.reduceMul,Nat.reduceBEq,reduceIte,reduceCtorEq]
   refine callQ_fn 3 (within a ha) (by simp only[go_sem]) rfl rfl ?_
   simp (config:={ decide:=true }) only[go_sem,Int.reduceToNat,Nat.reduceAdd,Nat.reduceSub,Nat.reduceMul,Nat.reduceBEq,reduceIte,reduceCtorEq]
  have e2:(k=[120,99,104,103])=False:=by simp only[eq_iff_iff,iff_false];exact h2
  by_cases h3:k=cmpB
  ·have e3:(k=[99,109,112])=True:=by simp only[eq_iff_iff,iff_true];exact h3
   simp (config:={ decide:=true }) only[go_sem,Int.reduceToNat,Nat.reduceAdd,Nat.reduceSub,Nat.reduceMul,Nat.reduceBEq,reduceIte,reduceCtorEq,e1,e2,e3]
   refine callX_fn 3 (numGet b hb) (by simp only[go_sem]) rfl ?_
   cases hn:(numB b).2 with
   | true=>simp (config:={ decide:=true }) only[go_sem,Int.reduceToNat,Nat.reduceAdd,Nat.reduceSub,Nat.reduceMul,Nat.reduceBEq,reduceIte,reduceCtorEq];rw[if_neg h1,if_neg h2,if_pos h3]
   | false=>simp (config:={ decide:=true }) only[go_sem,Int.reduceToNat,Nat.reduceAdd,Nat.reduceSub,Nat.reduceMul,Nat.reduceBEq,reduceIte,reduceCtorEq];rw[if_neg h1,if_neg h2,if_pos h3];rfl
  have e3:(k=[99,109,112])=False:=by simp only[eq_iff_iff,iff_false];exact h3
  simp (config:={ decide:=true }) only[go_sem,Int.reduceToNat,Nat.reduceAdd,Nat.reduceSub,Nat.reduceMul,Nat.reduceBEq,reduceIte,reduceCtorEq,e1,e2,e3]
  simp[h1,h2,h3,zeroL]
 | k::a::b::c::r,_ =>
  have hz:guessB (k::a::b::c::r)=zeroL:=rfl
  rw[hz]
  have l1:((strs (k::a::b::c::r)).length:Int)=(r.length:Int)+4:=by simp[strs];omega
  have l1' : (strs (k::a::b::c::r)).length=r.length+4:=by simp[strs]
  have g0:(strs (k::a::b::c::r))[0]?=some [.v (str k)]:=rfl
  have hu:RowsLen (strs (k::a::b::c::r)) 1=True:=by simp only[eq_iff_iff,iff_true];exact of_eq_true strs_rowsLen
  refine HCalls_bodyC (fn:=Tryz.f73) 85 [.cell 2 50] (by kernel_rfl) rfl rfl (by kernel_rfl) (HW.run 400 (by kernel_rfl) ?_)
  generalize strs (k::a::b::c::r)=rows at l1 l1' g0 hu⊢
  have c1:((rows.length:Int)=1)=False:=by simp only[eq_iff_iff,iff_false];omega
  have c2:((rows.length:Int)=2)=False:=by simp only[eq_iff_iff,iff_false];omega
  have c3:((rows.length:Int)=3)=False:=by simp only[eq_iff_iff,iff_false];omega
  have c4:((0:Int)<(rows.length:Int))=True:=by simp only[eq_iff_iff,iff_true];omega
  simp (config:={ decide:=true }) only[go_sem,Int.reduceToNat,Nat.reduceAdd,Nat.reduceSub,Nat.reduceMul,Nat.reduceBEq,reduceIte,reduceCtorEq,c1,c2,c3,c4,g0,hu]
  rfl
set_option maxHeartbeats 2000000 in
theorem opsGet (w:List (List UInt8)) (hl:∀s∈w,s.length≤1000000) (hn:w.length≤1000000):HFn Tryz.prog 56 [.sl (strs w)] (.tu [lineT (getB w).1,.v (.bool (getB w).2)]):=by
 refine HCalls_bodyC (fn:=Tryz.f56) 15 [.cell 2 50,.tmp 3] (by kernel_rfl) rfl rfl (by kernel_rfl) (HW.run 400 (by kernel_rfl) ?_)
 by_cases hw:w=[]
 ·subst hw
  have e0:strs []=[]:=rfl
  simp (config:={ decide:=true }) only[go_sem,Int.reduceToNat,Nat.reduceAdd,Nat.reduceSub,Nat.reduceMul,Nat.reduceBEq,reduceIte,reduceCtorEq,e0]
  rfl
 ·have hlen:((w.length:Nat):Int)≠0:=by
   cases w with
   | nil=>exact absurd rfl hw
   | cons x r=>simp;omega
  have hlen' : (((w.length:Nat):Int)=0)=False:=by simp only[eq_iff_iff,iff_false];exact hlen
  simp (config:={ decide:=true }) only[go_sem,Int.reduceToNat,Nat.reduceAdd,Nat.reduceSub,Nat.reduceMul,Nat.reduceBEq,reduceIte,reduceCtorEq,hlen']
  refine callX_fn 3 (guessPr w hw hl hn) (by simp only[go_sem]) rfl ?_
  simp (config:={ decide:=true }) only[go_sem,Int.reduceToNat,Nat.reduceAdd,Nat.reduceSub,Nat.reduceMul,Nat.reduceBEq,reduceIte,reduceCtorEq]
  refine callX_fn 3 (opsRight (guessB w).op (guessB w).rg (guessB w).loc (guessB w).lab (guessB w).n) (by simp only[go_sem]) rfl ?_
  unfold getB
  have hr:(guessB w).right=rightB (guessB w).op (guessB w).rg (guessB w).loc (guessB w).lab (guessB w).n:=rfl
  cases hc:rightB (guessB w).op (guessB w).rg (guessB w).loc (guessB w).lab (guessB w).n with
  | true =>
   simp (config:={ decide:=true }) only[go_sem,Int.reduceToNat,Nat.reduceAdd,Nat.reduceSub,Nat.reduceMul,Nat.reduceBEq,reduceIte,reduceCtorEq]
   rw[if_pos ⟨hw,hr.trans hc⟩]
  | false =>
   simp (config:={ decide:=true }) only[go_sem,Int.reduceToNat,Nat.reduceAdd,Nat.reduceSub,Nat.reduceMul,Nat.reduceBEq,reduceIte,reduceCtorEq]
   rw[if_neg (fun h=>by rw[hr,hc] at h;simp at h)]
   rfl
end Go.Proofs.YtmapdjdnnhlpiaaGreatDoor
namespace Go.Proofs.YtmapdjdnnhlpiaaGreatDoor
open Go.RowKit
set_option maxRecDepth 8000
def askedB (th:Int) (nm:List UInt8):Bool:=if th = -1 then nameB nm else decide (0≤th) && decide (th<3) && decide (0≤regB nm)
theorem opsAsked (th:Int) (nm:List UInt8) (n:Int):HFn Tryz.prog 72 [atomV th nm n] (.v (.bool (askedB th nm))):=by
 unfold askedB
 refine HCalls_body (fn:=Tryz.f72) 23 [2] (by kernel_rfl) rfl (by kernel_rfl) (HW.run 400 (by kernel_rfl) ?_)
 by_cases h1:th = -1
 ·simp (config:={ decide:=true }) only[go_sem,Int.reduceToNat,Nat.reduceAdd,Nat.reduceSub,Nat.reduceMul,Nat.reduceBEq,reduceIte,reduceCtorEq,h1]
  refine callX_fn 3 (namePr nm) (by simp only[go_sem]) rfl ?_
  simp (config:={ decide:=true }) only[go_sem,Int.reduceToNat,Nat.reduceAdd,Nat.reduceSub,Nat.reduceMul,Nat.reduceBEq,reduceIte,reduceCtorEq]
 ·by_cases h2:0≤th
  ·by_cases h3:th<3
   ·simp (config:={ decide:=true }) only[go_sem,Int.reduceToNat,Nat.reduceAdd,Nat.reduceSub,Nat.reduceMul,Nat.reduceBEq,reduceIte,reduceCtorEq,h1,h2,h3]
    refine callX_fn 3 (regPr nm) (by simp only[go_sem]) rfl ?_
    simp (config:={ decide:=true }) only[go_sem,Int.reduceToNat,Nat.reduceAdd,Nat.reduceSub,Nat.reduceMul,Nat.reduceBEq,reduceIte,reduceCtorEq]
   ·simp (config:={ decide:=true }) only[go_sem,Int.reduceToNat,Nat.reduceAdd,Nat.reduceSub,Nat.reduceMul,Nat.reduceBEq,reduceIte,reduceCtorEq,h1,h2,h3]
    simp[h1,h3]
  ·simp (config:={ decide:=true }) only[go_sem,Int.reduceToNat,Nat.reduceAdd,Nat.reduceSub,Nat.reduceMul,Nat.reduceBEq,reduceIte,reduceCtorEq,h1,h2]
   simp[h1,h2]
def wordA (th:Int) (nm:List UInt8) (n:Int):List UInt8 :=
 if askedB th nm=true then (if 0≤th then textB th++[58]++(nm++[61]++textB n) else nm++[61]++textB n) else []
structure AT where
 th:Int
 nm:List UInt8
 n:Int
 deriving DecidableEq
abbrev atomT (a:AT):HV:=atomV a.th a.nm a.n
def zeroA:AT:=⟨0,[],0⟩
def headA (left:List UInt8):Option (Int×List UInt8) :=
 if (Lib.cut left [58]).2.2=true then
  (if (numB (Lib.cut left [58]).1).2=true∧0≤(numB (Lib.cut left [58]).1).1 then some ((numB (Lib.cut left [58]).1).1,(Lib.cut left [58]).2.1) else none)
 else some (-1,left)
def atomB (s:List UInt8):AT×Bool :=
 match headA (Lib.cut s [61]).1 with
 | none=>(zeroA,false)
 | some (th,nm)=>if (numB (Lib.cut s [61]).2.1).2=true∧askedB th nm=true then (⟨th,nm,(numB (Lib.cut s [61]).2.1).1⟩,true) else (zeroA,false)
theorem cut_len (c:UInt8) (s:List UInt8):(Lib.cut s [c]).1.length≤s.length∧(Lib.cut s [c]).2.1.length≤s.length:=by
 rcases cut1 c s with ⟨p,r,rfl,_,h⟩ | ⟨_,h⟩
 ·rw[h];simp;omega
 ·rw[h];simp
set_option maxHeartbeats 4000000 in
theorem opsAtom (s:List UInt8) (hs:s.length≤1000000):HFn Tryz.prog 55 [.v (str s)] (.tu [atomT (atomB s).1,.v (.bool (atomB s).2)]):=by
 obtain ⟨l1,l2⟩:=cut_len 61 s
 obtain ⟨l3,l4⟩:=cut_len 58 (Lib.cut s [61]).1
 refine HCalls_bodyC (fn:=Tryz.f55) 62 [.cell 2 53,.tmp 3] (by kernel_rfl) rfl rfl (by kernel_rfl) (HW.run 400 (by kernel_rfl) ?_)
 simp (config:={ decide:=true }) only[go_sem,Int.reduceToNat,Nat.reduceAdd,Nat.reduceSub,Nat.reduceMul,Nat.reduceBEq,reduceIte,reduceCtorEq]
 refine callX_fn 3 (stringsCut s [61] (by omega)) (by simp only[go_sem]) rfl ?_
 simp (config:={ decide:=true }) only[go_sem,Int.reduceToNat,Nat.reduceAdd,Nat.reduceSub,Nat.reduceMul,Nat.reduceBEq,reduceIte,reduceCtorEq]
 refine callX_fn 3 (stringsCut (Lib.cut s [61]).1 [58] (by omega)) (by simp only[go_sem]) rfl ?_
 unfold atomB headA
 generalize Lib.cut s [61]=c1 at *
 obtain ⟨left,right,is0⟩:=c1
 generalize Lib.cut left [58]=c2 at *
 obtain ⟨thr,name,is1⟩:=c2
 simp only at l1 l2 l3 l4
 cases is1 with
 | true =>
  simp (config:={ decide:=true }) only[go_sem,Int.reduceToNat,Nat.reduceAdd,Nat.reduceSub,Nat.reduceMul,Nat.reduceBEq,reduceIte,reduceCtorEq]
  refine callX_fn 3 (numGet thr (by omega)) (by simp only[go_sem]) rfl ?_
  cases hn:(numB thr).2 with
  | false =>
   simp (config:={ decide:=true }) only[go_sem,Int.reduceToNat,Nat.reduceAdd,Nat.reduceSub,Nat.reduceMul,Nat.reduceBEq,reduceIte,reduceCtorEq]
   rfl
  | true =>
   by_cases hneg:(numB thr).1<0
   ·simp (config:={ decide:=true }) only[go_sem,Int.reduceToNat,Nat.reduceAdd,Nat.reduceSub,Nat.reduceMul,Nat.reduceBEq,reduceIte,reduceCtorEq,hneg]
    rw[if_neg (by omega:¬0≤(numB thr).1)]
    rfl
   ·simp (config:={ decide:=true }) only[go_sem,Int.reduceToNat,Nat.reduceAdd,Nat.reduceSub,Nat.reduceMul,Nat.reduceBEq,reduceIte,reduceCtorEq,hneg]
    refine callX_fn 3 (numGet right (by omega)) (by simp only[go_sem]) rfl ?_
    cases hr:(numB right).2 with
    | false =>
     simp (config:={ decide:=true }) only[go_sem,Int.reduceToNat,Nat.reduceAdd,Nat.reduceSub,Nat.reduceMul,Nat.reduceBEq,reduceIte,reduceCtorEq]
     rw[if_pos (by omega:0≤(numB thr).1)]
     rfl
    | true =>
     simp (config:={ decide:=true }) only[go_sem,Int.reduceToNat,Nat.reduceAdd,Nat.reduceSub,Nat.reduceMul,Nat.reduceBEq,reduceIte,reduceCtorEq]
     refine callX_fn 3 (opsAsked (numB thr).1 name (numB right).1) (by simp only[go_sem]) rfl ?_
     cases hq:askedB (numB thr).1 name with
     | false =>
      simp (config:={ decide:=true }) only[go_sem,Int.reduceToNat,Nat.reduceAdd,Nat.reduceSub,Nat.reduceMul,Nat.reduceBEq,reduceIte,reduceCtorEq]
      rw[if_pos (by omega:0≤(numB thr).1)]
      simp[hq,zeroA]
     | true =>
      simp (config:={ decide:=true }) only[go_sem,Int.reduceToNat,Nat.reduceAdd,Nat.reduceSub,Nat.reduceMul,Nat.reduceBEq,reduceIte,reduceCtorEq]
      rw[if_pos (by omega:0≤(numB thr).1)]
      simp[hq]
 | false =>
  simp (config:={ decide:=true }) only[go_sem,Int.reduceToNat,Nat.reduceAdd,Nat.reduceSub,Nat.reduceMul,Nat.reduceBEq,reduceIte,reduceCtorEq]
  refine callX_fn 3 (numGet right (by omega)) (by simp only[go_sem]) rfl ?_
  cases hr:(numB right).2 with
  | false =>
   simp (config:={ decide:=true }) only[go_sem,Int.reduceToNat,Nat.reduceAdd,Nat.reduceSub,Nat.reduceMul,Nat.reduceBEq,reduceIte,reduceCtorEq]
   rfl
  | true =>
   simp (config:={ decide:=true }) only[go_sem,Int.reduceToNat,Nat.reduceAdd,Nat.reduceSub,Nat.reduceMul,Nat.reduceBEq,reduceIte,reduceCtorEq]
   refine callX_fn 3 (opsAsked (-1) left (numB right).1) (by simp only[go_sem]) rfl ?_
   cases hq:askedB (-1) left with
   | false=>simp (config:={ decide:=true }) only[go_sem,Int.reduceToNat,Nat.reduceAdd,Nat.reduceSub,Nat.reduceMul,Nat.reduceBEq,reduceIte,reduceCtorEq];rfl
   | true=>simp (config:={ decide:=true }) only[go_sem,Int.reduceToNat,Nat.reduceAdd,Nat.reduceSub,Nat.reduceMul,Nat.reduceBEq,reduceIte,reduceCtorEq]
end Go.Proofs.YtmapdjdnnhlpiaaGreatDoor
namespace Go.Proofs.YtmapdjdnnhlpiaaGreatDoor
open Go.RowKit
set_option maxRecDepth 8000
theorem refHas (op:Int):HFn Tryz.prog 35 [.v (.int .i64 op)] (.tu [.v (.bool (hasReg op)),.v (.bool (hasLoc op)),.v (.bool (hasLab op)),.v (.bool (hasN op))]):=by
 by_cases h1:op=1∨op=2∨op=3∨op=4∨op=5∨op=7
 ·rcases h1 with rfl | rfl | rfl | rfl | rfl | rfl
  all_goals
   refine HCalls_body (fn:=Tryz.f35) 60 [2,3,4,5] (by kernel_rfl) rfl (by kernel_rfl) (HW.run 400 (by kernel_rfl) ?_)
   simp (config:={ decide:=true }) only[go_sem,Int.reduceToNat,Nat.reduceAdd,Nat.reduceSub,Nat.reduceMul,Nat.reduceBEq,reduceIte,reduceCtorEq]
   rfl
 ·have e1:¬op=1:=fun h=>h1 (by simp[h])
  have e2:¬op=2:=fun h=>h1 (by simp[h])
  have e3:¬op=3:=fun h=>h1 (by simp[h])
  have e4:¬op=4:=fun h=>h1 (by simp[h])
  have e5:¬op=5:=fun h=>h1 (by simp[h])
  have e7:¬op=7:=fun h=>h1 (by simp[h])
  refine HCalls_body (fn:=Tryz.f35) 60 [2,3,4,5] (by kernel_rfl) rfl (by kernel_rfl) (HW.run 400 (by kernel_rfl) ?_)
  have f1:hasReg op=false:=by simp[hasReg,e1,e2,e3,e5,e7]
  have f2:hasLoc op=false:=by simp[hasLoc,e2,e3,e4,e5]
  have f4:hasN op=false:=by simp[hasN,e1,e4,e7]
  by_cases h8:8≤op
  ·by_cases h11:op≤11
   ·simp (config:={ decide:=true }) only[go_sem,Int.reduceToNat,Nat.reduceAdd,Nat.reduceSub,Nat.reduceMul,Nat.reduceBEq,reduceIte,reduceCtorEq,e1,e2,e3,e4,e5,e7,h8,h11]
    simp[f1,f2,f4,hasLab,h8,h11]
   ·simp (config:={ decide:=true }) only[go_sem,Int.reduceToNat,Nat.reduceAdd,Nat.reduceSub,Nat.reduceMul,Nat.reduceBEq,reduceIte,reduceCtorEq,e1,e2,e3,e4,e5,e7,h8,h11]
    simp[f1,f2,f4,hasLab,h8,h11]
  ·simp (config:={ decide:=true }) only[go_sem,Int.reduceToNat,Nat.reduceAdd,Nat.reduceSub,Nat.reduceMul,Nat.reduceBEq,reduceIte,reduceCtorEq,e1,e2,e3,e4,e5,e7,h8]
   simp[f1,f2,f4,hasLab,h8]
set_option maxHeartbeats 4000000 in
theorem refRight (op:Int) (rg loc lab:List UInt8) (n:Int) (l1:rg.length≤1000000) (l2:loc.length≤1000000) (l3:lab.length≤1000000):HFn Tryz.prog 19 [lineV op rg loc lab n] (.v (.bool (rightB op rg loc lab n))):=by
 refine HCalls_body (fn:=Tryz.f19) 77 [2] (by kernel_rfl) rfl (by kernel_rfl) (HW.run 400 (by kernel_rfl) ?_)
 simp (config:={ decide:=true }) only[go_sem,Int.reduceToNat,Nat.reduceAdd,Nat.reduceSub,Nat.reduceMul,Nat.reduceBEq,reduceIte,reduceCtorEq]
 refine callX_fn 3 (refHas op) (by simp only[go_sem]) rfl ?_
 by_cases hlo:op<1
 ·simp (config:={ decide:=true }) only[go_sem,Int.reduceToNat,Nat.reduceAdd,Nat.reduceSub,Nat.reduceMul,Nat.reduceBEq,reduceIte,reduceCtorEq,hlo]
  have:rightB op rg loc lab n=false:=by unfold rightB;simp[show ¬1≤op by omega]
  rw[this]
 by_cases hhi:11<op
 ·simp (config:={ decide:=true }) only[go_sem,Int.reduceToNat,Nat.reduceAdd,Nat.reduceSub,Nat.reduceMul,Nat.reduceBEq,reduceIte,reduceCtorEq,hlo,hhi]
  have:rightB op rg loc lab n=false:=by unfold rightB;simp[show ¬op≤11 by omega]
  rw[this]
 have hr:rightB op rg loc lab n=rb (hasReg op) (hasLoc op) (hasLab op) (hasN op) (decide (0≤regB rg)) (decide (rg=[])) (nameB loc) (decide (loc=[])) (nameB lab) (decide (lab=[])) (decide (n=0)):=by
  unfold rightB
  simp[show 1≤op by omega,show op≤11 by omega]
 rw[hr]
 generalize hasReg op=fr
 generalize hasLoc op=fo
 generalize hasLab op=fa
 generalize hasN op=fn
 cases fr with
 | false =>
  by_cases hb:rg=[]
  ·simp (config:={ decide:=true }) only[go_sem,Int.reduceToNat,Nat.reduceAdd,Nat.reduceSub,Nat.reduceMul,Nat.reduceBEq,reduceIte,reduceCtorEq,hlo,hhi,hb]
   cases fo with
   | false =>
    by_cases hd:loc=[]
    ·simp (config:={ decide:=true }) only[go_sem,Int.reduceToNat,Nat.reduceAdd,Nat.reduceSub,Nat.reduceMul,Nat.reduceBEq,reduceIte,reduceCtorEq,hd]
     cases fa with
     | false =>
      by_cases hf:lab=[]
      ·simp (config:={ decide:=true }) only[go_sem,Int.reduceToNat,Nat.reduceAdd,Nat.reduceSub,Nat.reduceMul,Nat.reduceBEq,reduceIte,reduceCtorEq,hf]
       cases fn with
       | false =>
        by_cases hg:n=0
        ·simp (config:={ decide:=true }) only[go_sem,Int.reduceToNat,Nat.reduceAdd,Nat.reduceSub,Nat.reduceMul,Nat.reduceBEq,reduceIte,reduceCtorEq,hg]
         simp[rb,hg,hb,hd,hf]
        ·simp (config:={ decide:=true }) only[go_sem,Int.reduceToNat,Nat.reduceAdd,Nat.reduceSub,Nat.reduceMul,Nat.reduceBEq,reduceIte,reduceCtorEq,hg]
         simp[rb,hg]
       | true =>
        simp (config:={ decide:=true }) only[go_sem,Int.reduceToNat,Nat.reduceAdd,Nat.reduceSub,Nat.reduceMul,Nat.reduceBEq,reduceIte,reduceCtorEq]
        simp[rb,hb,hd,hf]
      ·simp (config:={ decide:=true }) only[go_sem,Int.reduceToNat,Nat.reduceAdd,Nat.reduceSub,Nat.reduceMul,Nat.reduceBEq,reduceIte,reduceCtorEq,hf]
       simp[rb,hf]
     | true =>
      simp (config:={ decide:=true }) only[go_sem,Int.reduceToNat,Nat.reduceAdd,Nat.reduceSub,Nat.reduceMul,Nat.reduceBEq,reduceIte,reduceCtorEq]
      refine callX_fn 3 (refName lab l3) (by simp only[go_sem]) rfl ?_
      cases he:nameB lab with
      | false =>
       simp (config:={ decide:=true }) only[go_sem,Int.reduceToNat,Nat.reduceAdd,Nat.reduceSub,Nat.reduceMul,Nat.reduceBEq,reduceIte,reduceCtorEq]
       simp[rb]
      | true =>
       simp (config:={ decide:=true }) only[go_sem,Int.reduceToNat,Nat.reduceAdd,Nat.reduceSub,Nat.reduceMul,Nat.reduceBEq,reduceIte,reduceCtorEq]
       cases fn with
       | false =>
        by_cases hg:n=0
        ·simp (config:={ decide:=true }) only[go_sem,Int.reduceToNat,Nat.reduceAdd,Nat.reduceSub,Nat.reduceMul,Nat.reduceBEq,reduceIte,reduceCtorEq,hg]
         simp[rb,hg,hb,hd]
        ·simp (config:={ decide:=true }) only[go_sem,Int.reduceToNat,Nat.reduceAdd,Nat.reduceSub,Nat.reduceMul,Nat.reduceBEq,reduceIte,reduceCtorEq,hg]
         simp[rb,hg]
       | true =>
        simp (config:={ decide:=true }) only[go_sem,Int.reduceToNat,Nat.reduceAdd,Nat.reduceSub,Nat.reduceMul,Nat.reduceBEq,reduceIte,reduceCtorEq]
        simp[rb,hb,hd]
    ·simp (config:={ decide:=true }) only[go_sem,Int.reduceToNat,Nat.reduceAdd,Nat.reduceSub,Nat.reduceMul,Nat.reduceBEq,reduceIte,reduceCtorEq,hd]
     simp[rb,hd]
   | true =>
    simp (config:={ decide:=true }) only[go_sem,Int.reduceToNat,Nat.reduceAdd,Nat.reduceSub,Nat.reduceMul,Nat.reduceBEq,reduceIte,reduceCtorEq]
    refine callX_fn 3 (refName loc l2) (by simp only[go_sem]) rfl ?_
    cases hc:nameB loc with
    | false =>
     simp (config:={ decide:=true }) only[go_sem,Int.reduceToNat,Nat.reduceAdd,Nat.reduceSub,Nat.reduceMul,Nat.reduceBEq,reduceIte,reduceCtorEq]
     simp[rb]
    | true =>
     simp (config:={ decide:=true }) only[go_sem,Int.reduceToNat,Nat.reduceAdd,Nat.reduceSub,Nat.reduceMul,Nat.reduceBEq,reduceIte,reduceCtorEq]
     cases fa with
     | false =>
      by_cases hf:lab=[]
      ·simp (config:={ decide:=true }) only[go_sem,Int.reduceToNat,Nat.reduceAdd,Nat.reduceSub,Nat.reduceMul,Nat.reduceBEq,reduceIte,reduceCtorEq,hf]
       cases fn with
       | false =>
        by_cases hg:n=0
        ·simp (config:={ decide:=true }) only[go_sem,Int.reduceToNat,Nat.reduceAdd,Nat.reduceSub,Nat.reduceMul,Nat.reduceBEq,reduceIte,reduceCtorEq,hg]
         simp[rb,hg,hb,hf]
        ·simp (config:={ decide:=true }) only[go_sem,Int.reduceToNat,Nat.reduceAdd,Nat.reduceSub,Nat.reduceMul,Nat.reduceBEq,reduceIte,reduceCtorEq,hg]
         simp[rb,hg]
       | true =>
        simp (config:={ decide:=true }) only[go_sem,Int.reduceToNat,Nat.reduceAdd,Nat.reduceSub,Nat.reduceMul,Nat.reduceBEq,reduceIte,reduceCtorEq]
        simp[rb,hb,hf]
      ·simp (config:={ decide:=true }) only[go_sem,Int.reduceToNat,Nat.reduceAdd,Nat.reduceSub,Nat.reduceMul,Nat.reduceBEq,reduceIte,reduceCtorEq,hf]
       simp[rb,hf]
     | true =>
      simp (config:={ decide:=true }) only[go_sem,Int.reduceToNat,Nat.reduceAdd,Nat.reduceSub,Nat.reduceMul,Nat.reduceBEq,reduceIte,reduceCtorEq]
      refine callX_fn 3 (refName lab l3) (by simp only[go_sem]) rfl ?_
      cases he:nameB lab with
      | false =>
       simp (config:={ decide:=true }) only[go_sem,Int.reduceToNat,Nat.reduceAdd,Nat.reduceSub,Nat.reduceMul,Nat.reduceBEq,reduceIte,reduceCtorEq]
       simp[rb]
      | true =>
       simp (config:={ decide:=true }) only[go_sem,Int.reduceToNat,Nat.reduceAdd,Nat.reduceSub,Nat.reduceMul,Nat.reduceBEq,reduceIte,reduceCtorEq]
       cases fn with
       | false =>
        by_cases hg:n=0
        ·simp (config:={ decide:=true }) only[go_sem,Int.reduceToNat,Nat.reduceAdd,Nat.reduceSub,Nat.reduceMul,Nat.reduceBEq,reduceIte,reduceCtorEq,hg]
         simp[rb,hg,hb]
        ·simp (config:={ decide:=true }) only[go_sem,Int.reduceToNat,Nat.reduceAdd,Nat.reduceSub,Nat.reduceMul,Nat.reduceBEq,reduceIte,reduceCtorEq,hg]
         simp[rb,hg]
       | true =>
        simp (config:={ decide:=true }) only[go_sem,Int.reduceToNat,Nat.reduceAdd,Nat.reduceSub,Nat.reduceMul,Nat.reduceBEq,reduceIte,reduceCtorEq]
        simp[rb,hb]
  ·simp (config:={ decide:=true }) only[go_sem,Int.reduceToNat,Nat.reduceAdd,Nat.reduceSub,Nat.reduceMul,Nat.reduceBEq,reduceIte,reduceCtorEq,hlo,hhi,hb]
   simp[rb,hb]
 | true =>
  simp (config:={ decide:=true }) only[go_sem,Int.reduceToNat,Nat.reduceAdd,Nat.reduceSub,Nat.reduceMul,Nat.reduceBEq,reduceIte,reduceCtorEq,hlo,hhi]
  refine callX_fn 3 (refReg rg) (by simp only[go_sem]) rfl ?_
  by_cases ha:regB rg<0
  ·have ha2:¬0≤regB rg:=by omega
   simp (config:={ decide:=true }) only[go_sem,Int.reduceToNat,Nat.reduceAdd,Nat.reduceSub,Nat.reduceMul,Nat.reduceBEq,reduceIte,reduceCtorEq,ha]
   simp[rb,ha2]
  ·have ha2:0≤regB rg:=by omega
   simp (config:={ decide:=true }) only[go_sem,Int.reduceToNat,Nat.reduceAdd,Nat.reduceSub,Nat.reduceMul,Nat.reduceBEq,reduceIte,reduceCtorEq,ha]
   cases fo with
   | false =>
    by_cases hd:loc=[]
    ·simp (config:={ decide:=true }) only[go_sem,Int.reduceToNat,Nat.reduceAdd,Nat.reduceSub,Nat.reduceMul,Nat.reduceBEq,reduceIte,reduceCtorEq,hd]
     cases fa with
     | false =>
      by_cases hf:lab=[]
      ·simp (config:={ decide:=true }) only[go_sem,Int.reduceToNat,Nat.reduceAdd,Nat.reduceSub,Nat.reduceMul,Nat.reduceBEq,reduceIte,reduceCtorEq,hf]
       cases fn with
       | false =>
        by_cases hg:n=0
        ·simp (config:={ decide:=true }) only[go_sem,Int.reduceToNat,Nat.reduceAdd,Nat.reduceSub,Nat.reduceMul,Nat.reduceBEq,reduceIte,reduceCtorEq,hg]
         simp[rb,hg,ha2,hd,hf]
        ·simp (config:={ decide:=true }) only[go_sem,Int.reduceToNat,Nat.reduceAdd,Nat.reduceSub,Nat.reduceMul,Nat.reduceBEq,reduceIte,reduceCtorEq,hg]
         simp[rb,hg]
       | true =>
        simp (config:={ decide:=true }) only[go_sem,Int.reduceToNat,Nat.reduceAdd,Nat.reduceSub,Nat.reduceMul,Nat.reduceBEq,reduceIte,reduceCtorEq]
        simp[rb,ha2,hd,hf]
      ·simp (config:={ decide:=true }) only[go_sem,Int.reduceToNat,Nat.reduceAdd,Nat.reduceSub,Nat.reduceMul,Nat.reduceBEq,reduceIte,reduceCtorEq,hf]
       simp[rb,hf]
     | true =>
      simp (config:={ decide:=true }) only[go_sem,Int.reduceToNat,Nat.reduceAdd,Nat.reduceSub,Nat.reduceMul,Nat.reduceBEq,reduceIte,reduceCtorEq]
      refine callX_fn 3 (refName lab l3) (by simp only[go_sem]) rfl ?_
      cases he:nameB lab with
      | false =>
       simp (config:={ decide:=true }) only[go_sem,Int.reduceToNat,Nat.reduceAdd,Nat.reduceSub,Nat.reduceMul,Nat.reduceBEq,reduceIte,reduceCtorEq]
       simp[rb]
      | true =>
       simp (config:={ decide:=true }) only[go_sem,Int.reduceToNat,Nat.reduceAdd,Nat.reduceSub,Nat.reduceMul,Nat.reduceBEq,reduceIte,reduceCtorEq]
       cases fn with
       | false =>
        by_cases hg:n=0
        ·simp (config:={ decide:=true }) only[go_sem,Int.reduceToNat,Nat.reduceAdd,Nat.reduceSub,Nat.reduceMul,Nat.reduceBEq,reduceIte,reduceCtorEq,hg]
         simp[rb,hg,ha2,hd]
        ·simp (config:={ decide:=true }) only[go_sem,Int.reduceToNat,Nat.reduceAdd,Nat.reduceSub,Nat.reduceMul,Nat.reduceBEq,reduceIte,reduceCtorEq,hg]
         simp[rb,hg]
       | true =>
        simp (config:={ decide:=true }) only[go_sem,Int.reduceToNat,Nat.reduceAdd,Nat.reduceSub,Nat.reduceMul,Nat.reduceBEq,reduceIte,reduceCtorEq]
        simp[rb,ha2,hd]
    ·simp (config:={ decide:=true }) only[go_sem,Int.reduceToNat,Nat.reduceAdd,Nat.reduceSub,Nat.reduceMul,Nat.reduceBEq,reduceIte,reduceCtorEq,hd]
     simp[rb,hd]
   | true =>
    simp (config:={ decide:=true }) only[go_sem,Int.reduceToNat,Nat.reduceAdd,Nat.reduceSub,Nat.reduceMul,Nat.reduceBEq,reduceIte,reduceCtorEq]
    refine callX_fn 3 (refName loc l2) (by simp only[go_sem]) rfl ?_
    cases hc:nameB loc with
    | false =>
     simp (config:={ decide:=true }) only[go_sem,Int.reduceToNat,Nat.reduceAdd,Nat.reduceSub,Nat.reduceMul,Nat.reduceBEq,reduceIte,reduceCtorEq]
     simp[rb]
    | true =>
     simp (config:={ decide:=true }) only[go_sem,Int.reduceToNat,Nat.reduceAdd,Nat.reduceSub,Nat.reduceMul,Nat.reduceBEq,reduceIte,reduceCtorEq]
     cases fa with
     | false =>
      by_cases hf:lab=[]
      ·simp (config:={ decide:=true }) only[go_sem,Int.reduceToNat,Nat.reduceAdd,Nat.reduceSub,Nat.reduceMul,Nat.reduceBEq,reduceIte,reduceCtorEq,hf]
       cases fn with
       | false =>
        by_cases hg:n=0
        ·simp (config:={ decide:=true }) only[go_sem,Int.reduceToNat,Nat.reduceAdd,Nat.reduceSub,Nat.reduceMul,Nat.reduceBEq,reduceIte,reduceCtorEq,hg]
         simp[rb,hg,ha2,hf]
        ·simp (config:={ decide:=true }) only[go_sem,Int.reduceToNat,Nat.reduceAdd,Nat.reduceSub,Nat.reduceMul,Nat.reduceBEq,reduceIte,reduceCtorEq,hg]
         simp[rb,hg]
       | true =>
        simp (config:={ decide:=true }) only[go_sem,Int.reduceToNat,Nat.reduceAdd,Nat.reduceSub,Nat.reduceMul,Nat.reduceBEq,reduceIte,reduceCtorEq]
        simp[rb,ha2,hf]
      ·simp (config:={ decide:=true }) only[go_sem,Int.reduceToNat,Nat.reduceAdd,Nat.reduceSub,Nat.reduceMul,Nat.reduceBEq,reduceIte,reduceCtorEq,hf]
       simp[rb,hf]
     | true =>
      simp (config:={ decide:=true }) only[go_sem,Int.reduceToNat,Nat.reduceAdd,Nat.reduceSub,Nat.reduceMul,Nat.reduceBEq,reduceIte,reduceCtorEq]
      refine callX_fn 3 (refName lab l3) (by simp only[go_sem]) rfl ?_
      cases he:nameB lab with
      | false =>
       simp (config:={ decide:=true }) only[go_sem,Int.reduceToNat,Nat.reduceAdd,Nat.reduceSub,Nat.reduceMul,Nat.reduceBEq,reduceIte,reduceCtorEq]
       simp[rb]
      | true =>
       simp (config:={ decide:=true }) only[go_sem,Int.reduceToNat,Nat.reduceAdd,Nat.reduceSub,Nat.reduceMul,Nat.reduceBEq,reduceIte,reduceCtorEq]
       cases fn with
       | false =>
        by_cases hg:n=0
        ·simp (config:={ decide:=true }) only[go_sem,Int.reduceToNat,Nat.reduceAdd,Nat.reduceSub,Nat.reduceMul,Nat.reduceBEq,reduceIte,reduceCtorEq,hg]
         simp[rb,hg,ha2]
        ·simp (config:={ decide:=true }) only[go_sem,Int.reduceToNat,Nat.reduceAdd,Nat.reduceSub,Nat.reduceMul,Nat.reduceBEq,reduceIte,reduceCtorEq,hg]
         simp[rb,hg]
       | true =>
        simp (config:={ decide:=true }) only[go_sem,Int.reduceToNat,Nat.reduceAdd,Nat.reduceSub,Nat.reduceMul,Nat.reduceBEq,reduceIte,reduceCtorEq]
        simp[rb,ha2]
theorem refAsked (th:Int) (nm:List UInt8) (n:Int) (hl:nm.length≤1000000):HFn Tryz.prog 20 [atomV th nm n] (.v (.bool (askedB th nm))):=by
 unfold askedB
 refine HCalls_body (fn:=Tryz.f20) 23 [2] (by kernel_rfl) rfl (by kernel_rfl) (HW.run 400 (by kernel_rfl) ?_)
 by_cases h1:th = -1
 ·simp (config:={ decide:=true }) only[go_sem,Int.reduceToNat,Nat.reduceAdd,Nat.reduceSub,Nat.reduceMul,Nat.reduceBEq,reduceIte,reduceCtorEq,h1]
  refine callX_fn 3 (refName nm hl) (by simp only[go_sem]) rfl ?_
  simp (config:={ decide:=true }) only[go_sem,Int.reduceToNat,Nat.reduceAdd,Nat.reduceSub,Nat.reduceMul,Nat.reduceBEq,reduceIte,reduceCtorEq]
 ·by_cases h2:0≤th
  ·by_cases h3:th<3
   ·simp (config:={ decide:=true }) only[go_sem,Int.reduceToNat,Nat.reduceAdd,Nat.reduceSub,Nat.reduceMul,Nat.reduceBEq,reduceIte,reduceCtorEq,h1,h2,h3]
    refine callX_fn 3 (refReg nm) (by simp only[go_sem]) rfl ?_
    simp (config:={ decide:=true }) only[go_sem,Int.reduceToNat,Nat.reduceAdd,Nat.reduceSub,Nat.reduceMul,Nat.reduceBEq,reduceIte,reduceCtorEq]
   ·simp (config:={ decide:=true }) only[go_sem,Int.reduceToNat,Nat.reduceAdd,Nat.reduceSub,Nat.reduceMul,Nat.reduceBEq,reduceIte,reduceCtorEq,h1,h2,h3]
    simp[h1,h3]
  ·simp (config:={ decide:=true }) only[go_sem,Int.reduceToNat,Nat.reduceAdd,Nat.reduceSub,Nat.reduceMul,Nat.reduceBEq,reduceIte,reduceCtorEq,h1,h2]
   simp[h1,h2]
theorem asked_minus {th:Int} {nm:List UInt8} (h:askedB th nm=true):th = -1∨0≤th:=by
 unfold askedB at h
 split at h
 ·exact .inl (by assumption)
 ·simp only[Bool.and_eq_true,decide_eq_true_eq] at h
  exact .inr h.1.1
theorem refWord (th:Int) (nm:List UInt8) (n:Int) (h1:inI th) (h2:inI n) (h3:nm.length≤1000000):HFn Tryz.prog 31 [atomV th nm n] (.v (str (wordA th nm n))):=by
 unfold wordA
 refine HCalls_body (fn:=Tryz.f31) 24 [2] (by kernel_rfl) rfl (by kernel_rfl) (HW.run 400 (by kernel_rfl) ?_)
 simp (config:={ decide:=true }) only[go_sem,Int.reduceToNat,Nat.reduceAdd,Nat.reduceSub,Nat.reduceMul,Nat.reduceBEq,reduceIte,reduceCtorEq]
 refine callX_fn 3 (refAsked th nm n h3) (by simp only[go_sem]) rfl ?_
 cases ha:askedB th nm with
 | false =>
  simp (config:={ decide:=true }) only[go_sem,Int.reduceToNat,Nat.reduceAdd,Nat.reduceSub,Nat.reduceMul,Nat.reduceBEq,reduceIte,reduceCtorEq]
 | true =>
  have l1:=textB_length h1
  have l2:=textB_length h2
  simp (config:={ decide:=true }) only[go_sem,Int.reduceToNat,Nat.reduceAdd,Nat.reduceSub,Nat.reduceMul,Nat.reduceBEq,reduceIte,reduceCtorEq]
  refine HW.quiet 80 follows (by kernel_rfl) ?_
  simp (config:={ decide:=true }) only[go_sem,Int.reduceToNat,Nat.reduceAdd,Nat.reduceSub,Nat.reduceMul,Nat.reduceBEq,reduceIte,reduceCtorEq,List.length_append]
  refine ⟨by omega,?_⟩
  refine callQ_fn 3 (refText n h2) (by simp only[go_sem]) rfl rfl ?_
  by_cases ht:th = -1
  ·subst ht
   simp (config:={ decide:=true }) only[go_sem,Int.reduceToNat,Nat.reduceAdd,Nat.reduceSub,Nat.reduceMul,Nat.reduceBEq,reduceIte,reduceCtorEq,List.length_append]
   omega
  ·have ht' : 0≤th:=by rcases asked_minus ha with h | h;exact absurd h ht;exact h
   simp (config:={ decide:=true }) only[go_sem,Int.reduceToNat,Nat.reduceAdd,Nat.reduceSub,Nat.reduceMul,Nat.reduceBEq,reduceIte,reduceCtorEq,ht,ht',List.length_append]
   refine ⟨by omega,?_⟩
   refine callX_fn 3 (refText th h1) (by simp only[go_sem]) rfl ?_
   simp (config:={ decide:=true }) only[go_sem,Int.reduceToNat,Nat.reduceAdd,Nat.reduceSub,Nat.reduceMul,Nat.reduceBEq,reduceIte,reduceCtorEq,List.length_append]
   omega
end Go.Proofs.YtmapdjdnnhlpiaaGreatDoor
namespace Go.Proofs.YtmapdjdnnhlpiaaGreatDoor
open Go.RowKit
set_option maxRecDepth 8000
theorem ops_all {op:Int} (h:1≤op∧op≤11):op=1∨op=2∨op=3∨op=4∨op=5∨op=6∨op=7∨op=8∨op=9∨op=10∨op=11:=by omega
set_option maxHeartbeats 4000000 in
theorem refLineWords (op:Int) (rg loc lab:List UInt8) (n:Int) (l1:rg.length≤1000000) (l2:loc.length≤1000000) (l3:lab.length≤1000000) (hn:inI n):HFn Tryz.prog 30 [lineV op rg loc lab n] (owStrs (lineW op rg loc lab n)):=by
 unfold lineW
 cases hr:rightB op rg loc lab n with
 | false =>
  rw[if_neg (by simp)]
  refine own_nil ?_
  refine HCalls_body (fn:=Tryz.f30) 76 [2] (by kernel_rfl) rfl (by kernel_rfl) (HW.run 400 (by kernel_rfl) ?_)
  simp (config:={ decide:=true }) only[go_sem,Int.reduceToNat,Nat.reduceAdd,Nat.reduceSub,Nat.reduceMul,Nat.reduceBEq,reduceIte,reduceCtorEq]
  refine callX_fn 3 (refRight op rg loc lab n l1 l2 l3) (by simp only[go_sem]) rfl ?_
  simp (config:={ decide:=true }) only[go_sem,Int.reduceToNat,Nat.reduceAdd,Nat.reduceSub,Nat.reduceMul,Nat.reduceBEq,reduceIte,reduceCtorEq,hr]
 | true =>
  rw[if_pos rfl]
  rcases ops_all (rightB_op hr) with rfl | rfl | rfl | rfl | rfl | rfl | rfl | rfl | rfl | rfl | rfl
  ·refine HCalls_body (fn:=Tryz.f30) 76 [2] (by kernel_rfl) rfl (by kernel_rfl) (HW.run 400 (by kernel_rfl) ?_)
   simp (config:={ decide:=true }) only[go_sem,Int.reduceToNat,Nat.reduceAdd,Nat.reduceSub,Nat.reduceMul,Nat.reduceBEq,reduceIte,reduceCtorEq]
   refine callX_fn 3 (refRight 1 rg loc lab n l1 l2 l3) (by simp only[go_sem]) rfl ?_
   simp (config:={ decide:=true }) only[go_sem,Int.reduceToNat,Nat.reduceAdd,Nat.reduceSub,Nat.reduceMul,Nat.reduceBEq,reduceIte,reduceCtorEq,hr,List.length_append]
   refine ⟨by omega,by omega,?_⟩
   refine HW.anyOrder 80 5 follows (by kernel_rfl) ?_
   simp (config:={ decide:=true }) only[go_sem,Int.reduceToNat,Nat.reduceAdd,Nat.reduceSub,Nat.reduceMul,Nat.reduceBEq,reduceIte,reduceCtorEq]
   refine callQ_fn 3 (refText n hn) (by simp only[go_sem]) rfl rfl ?_
   simp (config:={ decide:=true }) only[go_sem,Int.reduceToNat,Nat.reduceAdd,Nat.reduceSub,Nat.reduceMul,Nat.reduceBEq,reduceIte,reduceCtorEq]
   rfl
  ·refine HCalls_body (fn:=Tryz.f30) 76 [2] (by kernel_rfl) rfl (by kernel_rfl) (HW.run 400 (by kernel_rfl) ?_)
   simp (config:={ decide:=true }) only[go_sem,Int.reduceToNat,Nat.reduceAdd,Nat.reduceSub,Nat.reduceMul,Nat.reduceBEq,reduceIte,reduceCtorEq]
   refine callX_fn 3 (refRight 2 rg loc lab n l1 l2 l3) (by simp only[go_sem]) rfl ?_
   simp (config:={ decide:=true }) only[go_sem,Int.reduceToNat,Nat.reduceAdd,Nat.reduceSub,Nat.reduceMul,Nat.reduceBEq,reduceIte,reduceCtorEq,hr,List.length_append]
   refine ⟨by omega,by omega,?_⟩
   rfl
  ·refine HCalls_body (fn:=Tryz.f30) 76 [2] (by kernel_rfl) rfl (by kernel_rfl) (HW.run 400 (by kernel_rfl) ?_)
   simp (config:={ decide:=true }) only[go_sem,Int.reduceToNat,Nat.reduceAdd,Nat.reduceSub,Nat.reduceMul,Nat.reduceBEq,reduceIte,reduceCtorEq]
   refine callX_fn 3 (refRight 3 rg loc lab n l1 l2 l3) (by simp only[go_sem]) rfl ?_
   simp (config:={ decide:=true }) only[go_sem,Int.reduceToNat,Nat.reduceAdd,Nat.reduceSub,Nat.reduceMul,Nat.reduceBEq,reduceIte,reduceCtorEq,hr,List.length_append]
   refine ⟨by omega,by omega,?_⟩
   rfl
  ·refine HCalls_body (fn:=Tryz.f30) 76 [2] (by kernel_rfl) rfl (by kernel_rfl) (HW.run 400 (by kernel_rfl) ?_)
   simp (config:={ decide:=true }) only[go_sem,Int.reduceToNat,Nat.reduceAdd,Nat.reduceSub,Nat.reduceMul,Nat.reduceBEq,reduceIte,reduceCtorEq]
   refine callX_fn 3 (refRight 4 rg loc lab n l1 l2 l3) (by simp only[go_sem]) rfl ?_
   simp (config:={ decide:=true }) only[go_sem,Int.reduceToNat,Nat.reduceAdd,Nat.reduceSub,Nat.reduceMul,Nat.reduceBEq,reduceIte,reduceCtorEq,hr,List.length_append]
   refine ⟨by omega,by omega,?_⟩
   refine callX_fn 3 (refText n hn) (by simp only[go_sem]) rfl ?_
   simp (config:={ decide:=true }) only[go_sem,Int.reduceToNat,Nat.reduceAdd,Nat.reduceSub,Nat.reduceMul,Nat.reduceBEq,reduceIte,reduceCtorEq]
   rfl
  ·refine HCalls_body (fn:=Tryz.f30) 76 [2] (by kernel_rfl) rfl (by kernel_rfl) (HW.run 400 (by kernel_rfl) ?_)
   simp (config:={ decide:=true }) only[go_sem,Int.reduceToNat,Nat.reduceAdd,Nat.reduceSub,Nat.reduceMul,Nat.reduceBEq,reduceIte,reduceCtorEq]
   refine callX_fn 3 (refRight 5 rg loc lab n l1 l2 l3) (by simp only[go_sem]) rfl ?_
   simp (config:={ decide:=true }) only[go_sem,Int.reduceToNat,Nat.reduceAdd,Nat.reduceSub,Nat.reduceMul,Nat.reduceBEq,reduceIte,reduceCtorEq,hr,List.length_append]
   refine ⟨by omega,by omega,?_⟩
   rfl
  ·refine HCalls_body (fn:=Tryz.f30) 76 [2] (by kernel_rfl) rfl (by kernel_rfl) (HW.run 400 (by kernel_rfl) ?_)
   simp (config:={ decide:=true }) only[go_sem,Int.reduceToNat,Nat.reduceAdd,Nat.reduceSub,Nat.reduceMul,Nat.reduceBEq,reduceIte,reduceCtorEq]
   refine callX_fn 3 (refRight 6 rg loc lab n l1 l2 l3) (by simp only[go_sem]) rfl ?_
   simp (config:={ decide:=true }) only[go_sem,Int.reduceToNat,Nat.reduceAdd,Nat.reduceSub,Nat.reduceMul,Nat.reduceBEq,reduceIte,reduceCtorEq,hr,List.length_append]
   refine ⟨by omega,by omega,?_⟩
   rfl
  ·refine HCalls_body (fn:=Tryz.f30) 76 [2] (by kernel_rfl) rfl (by kernel_rfl) (HW.run 400 (by kernel_rfl) ?_)
   simp (config:={ decide:=true }) only[go_sem,Int.reduceToNat,Nat.reduceAdd,Nat.reduceSub,Nat.reduceMul,Nat.reduceBEq,reduceIte,reduceCtorEq]
   refine callX_fn 3 (refRight 7 rg loc lab n l1 l2 l3) (by simp only[go_sem]) rfl ?_
   simp (config:={ decide:=true }) only[go_sem,Int.reduceToNat,Nat.reduceAdd,Nat.reduceSub,Nat.reduceMul,Nat.reduceBEq,reduceIte,reduceCtorEq,hr,List.length_append]
   refine ⟨by omega,by omega,?_⟩
   refine HW.anyOrder 80 5 follows (by kernel_rfl) ?_
   simp (config:={ decide:=true }) only[go_sem,Int.reduceToNat,Nat.reduceAdd,Nat.reduceSub,Nat.reduceMul,Nat.reduceBEq,reduceIte,reduceCtorEq]
   refine callQ_fn 3 (refText n hn) (by simp only[go_sem]) rfl rfl ?_
   simp (config:={ decide:=true }) only[go_sem,Int.reduceToNat,Nat.reduceAdd,Nat.reduceSub,Nat.reduceMul,Nat.reduceBEq,reduceIte,reduceCtorEq]
   rfl
  ·refine HCalls_body (fn:=Tryz.f30) 76 [2] (by kernel_rfl) rfl (by kernel_rfl) (HW.run 400 (by kernel_rfl) ?_)
   simp (config:={ decide:=true }) only[go_sem,Int.reduceToNat,Nat.reduceAdd,Nat.reduceSub,Nat.reduceMul,Nat.reduceBEq,reduceIte,reduceCtorEq]
   refine callX_fn 3 (refRight 8 rg loc lab n l1 l2 l3) (by simp only[go_sem]) rfl ?_
   simp (config:={ decide:=true }) only[go_sem,Int.reduceToNat,Nat.reduceAdd,Nat.reduceSub,Nat.reduceMul,Nat.reduceBEq,reduceIte,reduceCtorEq,hr,List.length_append]
   refine ⟨by omega,by omega,?_⟩
   rfl
  ·refine HCalls_body (fn:=Tryz.f30) 76 [2] (by kernel_rfl) rfl (by kernel_rfl) (HW.run 400 (by kernel_rfl) ?_)
   simp (config:={ decide:=true }) only[go_sem,Int.reduceToNat,Nat.reduceAdd,Nat.reduceSub,Nat.reduceMul,Nat.reduceBEq,reduceIte,reduceCtorEq]
   refine callX_fn 3 (refRight 9 rg loc lab n l1 l2 l3) (by simp only[go_sem]) rfl ?_
   simp (config:={ decide:=true }) only[go_sem,Int.reduceToNat,Nat.reduceAdd,Nat.reduceSub,Nat.reduceMul,Nat.reduceBEq,reduceIte,reduceCtorEq,hr,List.length_append]
   refine ⟨by omega,by omega,?_⟩
   rfl
  ·refine HCalls_body (fn:=Tryz.f30) 76 [2] (by kernel_rfl) rfl (by kernel_rfl) (HW.run 400 (by kernel_rfl) ?_)
   simp (config:={ decide:=true }) only[go_sem,Int.reduceToNat,Nat.reduceAdd,Nat.reduceSub,Nat.reduceMul,Nat.reduceBEq,reduceIte,reduceCtorEq]
   refine callX_fn 3 (refRight 10 rg loc lab n l1 l2 l3) (by simp only[go_sem]) rfl ?_
   simp (config:={ decide:=true }) only[go_sem,Int.reduceToNat,Nat.reduceAdd,Nat.reduceSub,Nat.reduceMul,Nat.reduceBEq,reduceIte,reduceCtorEq,hr,List.length_append]
   refine ⟨by omega,by omega,?_⟩
   rfl
  ·refine HCalls_body (fn:=Tryz.f30) 76 [2] (by kernel_rfl) rfl (by kernel_rfl) (HW.run 400 (by kernel_rfl) ?_)
   simp (config:={ decide:=true }) only[go_sem,Int.reduceToNat,Nat.reduceAdd,Nat.reduceSub,Nat.reduceMul,Nat.reduceBEq,reduceIte,reduceCtorEq]
   refine callX_fn 3 (refRight 11 rg loc lab n l1 l2 l3) (by simp only[go_sem]) rfl ?_
   simp (config:={ decide:=true }) only[go_sem,Int.reduceToNat,Nat.reduceAdd,Nat.reduceSub,Nat.reduceMul,Nat.reduceBEq,reduceIte,reduceCtorEq,hr,List.length_append]
   refine ⟨by omega,by omega,by omega,?_⟩
   rfl
def innerB (s a b:List UInt8):List UInt8 :=
 if a.length+b.length<s.length∧s.take a.length=a∧s.drop (s.length-b.length)=b then (s.take (s.length-b.length)).drop a.length else []
set_option maxHeartbeats 2000000 in
theorem refInner (s a b:List UInt8) (hs:s.length≤1000000) (ha:a.length≤1000000) (hb:b.length≤1000000):HFn Tryz.prog 85 [.v (str s),.v (str a),.v (str b)] (.v (str (innerB s a b))):=by
 unfold innerB
 refine HCalls_body (fn:=Tryz.f85) 43 [6] (by kernel_rfl) rfl (by kernel_rfl) (HW.run 400 (by kernel_rfl) ?_)
 have w1:IntKind.i64.wrap ((a.length:Int)+(b.length:Int))=(a.length:Int)+(b.length:Int):=w64 (by omega) (by omega)
 have w2:IntKind.i64.wrap ((s.length:Int)-(b.length:Int))=(s.length:Int)-(b.length:Int):=w64 (by omega) (by omega)
 by_cases h1:a.length+b.length<s.length
 ·have c1:((s.length:Int)≤(a.length:Int)+(b.length:Int))=False:=by simp only[eq_iff_iff,iff_false];omega
  have t2:((s.length:Int)-(b.length:Int)).toNat=s.length-b.length:=by omega
  by_cases h2:s.take a.length=a
  ·by_cases h3:s.drop (s.length-b.length)=b
   ·simp (config:={ decide:=true }) only[go_sem,Int.reduceToNat,Nat.reduceAdd,Nat.reduceSub,Nat.reduceMul,Nat.reduceBEq,reduceIte,reduceCtorEq,w1,w2,c1,t2,h2,h3]
    refine ⟨by omega,⟨by omega,by omega⟩,⟨by omega,by omega⟩,?_⟩
    rw[if_pos h1]
   ·simp (config:={ decide:=true }) only[go_sem,Int.reduceToNat,Nat.reduceAdd,Nat.reduceSub,Nat.reduceMul,Nat.reduceBEq,reduceIte,reduceCtorEq,w1,w2,c1,t2,h2,h3]
    omega
  ·simp (config:={ decide:=true }) only[go_sem,Int.reduceToNat,Nat.reduceAdd,Nat.reduceSub,Nat.reduceMul,Nat.reduceBEq,reduceIte,reduceCtorEq,w1,w2,c1,t2,h2]
   omega
 ·have c1:((s.length:Int)≤(a.length:Int)+(b.length:Int))=True:=by simp only[eq_iff_iff,iff_true];omega
  simp (config:={ decide:=true }) only[go_sem,Int.reduceToNat,Nat.reduceAdd,Nat.reduceSub,Nat.reduceMul,Nat.reduceBEq,reduceIte,reduceCtorEq,w1,w2,c1]
  rw[if_neg (fun h=>h1 h.1)]
end Go.Proofs.YtmapdjdnnhlpiaaGreatDoor
namespace Go.Proofs.YtmapdjdnnhlpiaaGreatDoor
open Go.RowKit
section
variable {P:Program}
theorem HCalls.shut {f:FuncId} {H:Heap} {args:List HV} {Q:HV→Heap→Prop} (h:HCalls P f H args Q) (hnm:∀r H',Q r H'→H=[]∧H'=[]):HCalls P f H args (fun r H'=>∃r0,Q r0 H'∧r=fzo r0):=by
 refine ⟨h.1,fun Z G FP w vals hi ha=>Calls.mono (h.2 Z G FP w vals hi ha) ?_⟩
 rintro e w' ⟨v,r,H',Z',G',FP',fr,rfl,hQ,hlen,hi',hr,hnd,hfr1,hfr2,hG,hE⟩
 obtain ⟨rfl,rfl⟩:=hnm r H' hQ
 refine ⟨v,fzo r,[],fun b=>Z' b∨b∈fr,G',FP',[],rfl,⟨r,hQ,rfl⟩,rfl,?_,?_,by simp,by simp,by simp,hG,⟨hE.os,hE.tape,hE.output,hE.size,hE.keep,fun b h=>.inl (hE.zle b h),fun b hb=>?_,hE.fnew⟩⟩
 ·refine hi'.zmore (fun b hb=>.inl hb) (fun b hb=>?_) (fun id b hb hz=>?_)
  ·rcases hb with hb | hb
   ·exact hi'.zlt b hb
   ·exact (hfr1 b hb).2.1
  ·rcases hz with hz | hz
   ·exact hi'.zfp id b hb hz
   ·exact (hfr1 b hz).2.2 id hb
 ·exact RV.nil_keep (fun _ _=>rfl) (fun _ h=>h) (nil_GLe G') (fzo_spec (Z':=fun b=>Z' b∨b∈fr) r G' v fr ⟨fun b hb=>.inl hb,fun b hb=>.inr hb⟩ hr)
 ·rcases hb with hb | hb
  ·exact hE.znew b hb
  ·rcases hfr2 b hb with h | h
   ·exact .inr (.inl h)
   ·exact .inr (.inr h)
theorem HFn.shut {f:FuncId} {args:List HV} {R R' : HV} (h:HFn P f args R) (hR:fzo R=R'):HFn P f args R':=by
 subst hR
 have h' : HFn P f args R:=h
 refine ⟨h'.1,fun Z G FP w vals hi ha=>Calls.mono (h'.2 Z G FP w vals hi ha) ?_⟩
 rintro e w' ⟨v,r,H',Z',G',FP',fr,rfl,rfl,hlen,hi',hr,hnd,hfr1,hfr2,hG,hE⟩
 refine ⟨v,fzo r,H',fun b=>Z' b∨b∈fr,G',FP',[],rfl,rfl,hlen,?_,?_,by simp,by simp,by simp,hG,⟨hE.os,hE.tape,hE.output,hE.size,hE.keep,fun b h=>.inl (hE.zle b h),fun b hb=>?_,hE.fnew⟩⟩
 ·refine hi'.zmore (fun b hb=>.inl hb) (fun b hb=>?_) (fun id b hb hz=>?_)
  ·rcases hb with hb | hb
   ·exact hi'.zlt b hb
   ·exact (hfr1 b hb).2.1
  ·rcases hz with hz | hz
   ·exact hi'.zfp id b hb hz
   ·exact (hfr1 b hz).2.2 id hb
 ·exact RV.nil_keep (fun _ _=>rfl) (fun _ h=>h) (nil_GLe G') (fzo_spec (Z':=fun b=>Z' b∨b∈fr) r G' v fr ⟨fun b hb=>.inl hb,fun b hb=>.inr hb⟩ hr)
 ·rcases hb with hb | hb
  ·exact hE.znew b hb
  ·rcases hfr2 b hb with h | h
   ·exact .inr (.inl h)
   ·exact .inr (.inr h)
theorem HCalls.plain {f:FuncId} {args:List HV} {R:HV} {H:Heap} (h:HFn P f args R) (hnm:nmL 0 args=true):HCalls P f H args (fun r H'=>r=R∧H'=H):=by
 refine ⟨h.1,fun Z G FP w vals hi ha=>?_⟩
 have ha' : RL Z [] w args vals []:=by
  have:=nmL_spec args 0 G vals [] hnm ha
  simpa using this
 refine Calls.mono (h.2 Z [] _ w vals (HInv.empty hi.zlt hi.glob) ha') ?_
 rintro e w' ⟨v,r,H',Z',G',FP',fr,rfl,rfl,hlen,hi',hr,hnd,hfr1,hfr2,hG,hE⟩
 have hk:∀b,b<w.heap.size→w'.heap[b]?=w.heap[b]?:=fun b hb=>hE.keep b hb (by simp)
 have hnew:∀b∈fr,w.heap.size≤b:=fun b hb=>by
  rcases hfr2 b hb with h | ⟨id,h⟩
  ·exact h
  ·simp at h
 have hznew:∀b,Z' b→Z b∨w.heap.size≤b:=fun b hb=>by
  rcases hE.znew b hb with h | h | ⟨id,h⟩
  ·exact .inl h
  ·exact .inr h
  ·simp at h
 have hH' : H'=[]:=List.eq_nil_of_length_eq_zero hlen
 subst hH'
 have hG' : G'=[]:=List.eq_nil_of_length_eq_zero hi'.len
 subst hG'
 refine ⟨v,r,H,Z',G,FP,fr,rfl,⟨rfl,rfl⟩,rfl,?_,RV.keep (fun _ _=>rfl) (fun _ h=>h) (nil_GLe G) r v fr (fun _ _=>rfl) hr,hnd,fun b hb=>?_,fun b hb=>.inl (hnew b hb),GLe.refl _,⟨hE.os,hE.tape,hE.output,hE.size,fun b hb _=>hk b hb,hE.zle,fun b hb=>?_,fun id b hb=>.inr ⟨id,hb⟩⟩⟩
 ·refine (hi.keep hE.size (fun b hb=>hk b (by
   rcases hb with hb | ⟨id,hb⟩
   ·exact hi.zlt b hb
   ·exact hi.flt id b hb))).zmore hE.zle hi'.zlt (fun id b hb hz=>?_)
  rcases hznew b hz with h | h
  ·exact hi.zfp id b hb h
  ·have:=hi.flt id b hb;omega
 ·refine ⟨(hfr1 b hb).1,(hfr1 b hb).2.1,fun id hc=>?_⟩
  have:=hi.flt id b hc;have:=hnew b hb;omega
 ·rcases hznew b hb with h | h
  ·exact .inl h
  ·exact .inr (.inl h)
section
variable {k:List Item→KS} {all l:List Oper} {d:Option Nat} {r:List Item} {T:Nat→HV} {H:Heap}
theorem callX_nm {fid:Nat} {args args' : List HV} {R:HV} (spec:HFn P fid args' R) (hargs:args=args') (hnm:nmL 0 args=true) (h:k (.ops all l::r) (updO T d (nameV R H).1) (nameV R H).2):callX k P fid H args all d l r T:=by
 subst hargs
 exact ⟨_,HCalls.plain spec hnm,fun x H' hx _=>by obtain ⟨rfl,rfl⟩:=hx;exact h⟩
end
def endF (P:Program) (rs:List ResultVar) (m:Nat) (Q:HV→Prop) (e:Exit) (T:Nat→HV) (H:Heap):Prop :=
 match e with
 | .normal=>retK P rs T H fun vs H'=>Q (fz m H' (retVs vs))
 | .ret=>retK P rs T H fun vs H'=>Q (fz m H' (retVs vs))
 | _=>False
theorem HFn_bodyF {f:FuncId} {fn:Func} {c:Code} {args:List HV} {R:HV} (m:Nat) (N:Nat) (rs:List ResultVar) (hf:P.funcs[f]?=some fn) (hb:fn.body=some c) (hres:fn.results.toList=rs) (hok:fnOkC fn N rs args.length=true)
  (h:HW P N 0 c (endF P rs m (fun x=>x=R)) (T0 args) []):HFn P f args R:=by
 simp only[fnOkC,Bool.and_eq_true,beq_iff_eq,Bool.not_eq_true'] at hok
 obtain ⟨⟨⟨hname,hNN⟩,hrlt⟩,hN0⟩:=hok
 subst hNN
 have hN:args.length≤fn.ntmps:=Nat.le_of_ble_eq_true hN0
 have hrlt:∀r∈rs,resTmp r<fn.ntmps:=fun i hi=>by simpa using List.all_eq_true.1 hrlt i hi
 have hne:¬fn.name = "runtime.NumGoroutine" :=by simpa using hname
 refine ⟨fun vals w=>by simp[callFunc,hf,hne,hb],fun Z G FP w vals hi ha=>?_⟩
 refine callsIn_wide.1 (callsIn_of_wp_marks (F:=Fence.wide) (n:=0) hf hb trivial ?_)
 have hlen:=RL_length _ _ _ ha
 have hsz:(vals.toArray++Array.replicate (fn.ntmps-vals.toArray.size) undef).size=fn.ntmps:=by simp;omega
 have hst:St fn.ntmps w.heap.size Z G FP [] (T0 args) [] { tmps:=vals.toArray++Array.replicate (fn.ntmps-vals.toArray.size) undef,defers:=[] } w :=
  ⟨hi,hsz,T0_spec fn.ntmps ha,rfl,by simp,by simp⟩
 have hG0:G=[]:=List.eq_nil_of_length_eq_zero hi.len
 refine wpIn_mono (h none 0 w.heap.size Z G FP [] _ w ⟨Nat.le_refl _,by simp⟩ (by omega) hst) ?_
 rintro e a' w' ⟨T',H',Z',G',FP',ds',hend,hs',hG',hE'⟩
 have he:e=.normal∨e=.ret:=by cases e <;> simp[endF] at hend <;> simp
 have hend' : retK P rs T' H' fun vs H''=>fz m H'' (retVs vs)=R:=by rcases he with rfl | rfl <;> exact hend
 have goal:LeavesInM Fence.wide 0 P fn a'.tmps (Post Z G FP [] w (fun r _=>r=R)) a'.defers .returning w':=by
  rw[hs'.defers]
  refine leaves_marks (ro:=none) ds' w' hs'.dsn (fun d hd=>(hs'.dsat d hd).2.1) ?_
  intro w2 ho ht hout hsz2 hk
  have hkeep:∀b,(Z' b∨∃id,b∈FP' id)→w2.heap[b]?=w'.heap[b]?:=by
   intro b hb
   refine hk b fun hc=>?_
   obtain ⟨_,_,h3,h4⟩:=hs'.dsat b hc
   rcases hb with hb | ⟨id,hb⟩
   ·exact h3 hb
   ·exact h4 id hb
  have hi2:HInv Z' G' FP' H' w2:=hs'.inv.keep (by omega) hkeep
  obtain ⟨vs,ys,H2,G2,FP2,r1,r2,r3,r4,hi3,hG2,hE3⟩:=run_retK rs H' _ G' FP' hend' hrlt hi2 (fun i hi'=>RV.nil_keep (fun b hb=>hkeep b (.inl hb)) (fun _ h=>h) (GLe.refl _) (hs'.tmps i hi'))
  obtain ⟨v,hrun,hv⟩:=run_results (fn:=fn) hres r1 r3
  refine ⟨v,hrun,?_⟩
  have hE2:Evo Z FP w Z' FP2 w2:=by
   have:Evo Z FP w Z' FP' w2:=by
    refine ⟨ho.trans hE'.os,ht.trans hE'.tape,hout.trans hE'.output,by rw[hsz2];exact hE'.size,fun b hb hf=>?_,hE'.zle,hE'.znew,hE'.fnew⟩
    rw[hk b (fun hc=>by have:=(hs'.dsat b hc).1;omega)]
    exact hE'.keep b hb hf
   exact this.trans hE3
  have hzlt:∀b,Zall Z' FP2 b→b<w2.heap.size:=by
   rintro b (hb | ⟨id,hb⟩)
   ·exact hi3.zlt b hb
   ·exact hi3.flt id b hb
  have hfz:=fz_spec hi3 m _ v [] (by simp) hv
  refine ⟨v,_,[],Zall Z' FP2,[],fun _=>[],[],rfl,r2,rfl,HInv.empty hzlt (hi3.glob.keep (fun b hb=>.inl hb) (fun _ _=>rfl)),hfz,by simp,by simp,by simp,?_,?_⟩
  ·subst hG0;exact GLe.refl _
  ·refine ⟨hE2.os,hE2.tape,hE2.output,hE2.size,hE2.keep,fun b hb=>.inl (hE2.zle b hb),fun b hb=>?_,fun id b hb=>by simp at hb⟩
   rcases hb with hb | ⟨id,hb⟩
   ·exact hE2.znew b hb
   ·rcases hE2.fnew id b hb with h | h
    ·exact .inr (.inl h)
    ·exact .inr (.inr h)
 rcases he with rfl | rfl <;> exact goal
section
variable {L:Nat} {T:Nat→HV} {H:Heap} {Q:HV→Prop} {m:Nat} {rs:List ResultVar}
theorem endF_ret:endF P rs m Q .ret T H=retK P rs T H fun vs H'=>Q (fz m H' (retVs vs)):=rfl
theorem endF_normal:endF P rs m Q .normal T H=retK P rs T H fun vs H'=>Q (fz m H' (retVs vs)):=rfl
end
end
attribute [go_sem] endF_ret endF_normal
end Go.Proofs.YtmapdjdnnhlpiaaGreatDoor
namespace Go.Proofs.YtmapdjdnnhlpiaaGreatDoor
open Go.RowKit
def isW:HV→Bool
 | .v _=>true
 | _=>false
section
variable {α:Type} {f:α→List HV} {n:Nat}
theorem nzL_allW:∀{l:List HV},l.all isW=true→nzL l=true
 | [],_=>rfl
 | h::t,hl=>by
  simp only[List.all_cons,Bool.and_eq_true] at hl
  have:nz h=true:=by
   cases h <;> first | rfl | (have:=hl.1;simp[isW] at this)
  simp only[nzL,this,nzL_allW hl.2,Bool.and_self]
theorem vals_nzR (h:∀a,(f a).all isW=true):∀l:List α,nzR (l.map f)=true
 | []=>rfl
 | a::t=>by simp only[List.map_cons,nzR,nzL_allW (h a),vals_nzR h t,Bool.and_self]
theorem fz_tu {k:Nat} {H:Heap} {cs:List HV}:fz (k+1) H (.tu cs)=.tu (cs.map (fz k H)):=rfl
end
attribute [go_sem] fz_tu
end Go.Proofs.YtmapdjdnnhlpiaaGreatDoor
namespace Go.Proofs.YtmapdjdnnhlpiaaGreatDoor
open Go.RowKit
section
variable {α:Type} [DecidableEq α]
def getM (kv:List (α×Int)) (k:α):Int:=((kv.find? fun e=>decide (k=e.1)).map (·.2)).getD 0
def inM (kv:List (α×Int)) (k:α):Bool:=kv.any fun e=>decide (k=e.1)
def setM (kv:List (α×Int)) (k:α) (v:Int):List (α×Int) :=
 match kv with
 | []=>[(k,v)]
 | e::r=>if k=e.1 then (k,v)::r else e::setM r k v
def entM (kv:List (α×Int)) (k:α):List (α×Int):=if inM kv k=true then kv else kv++[(k,0)]
def idxM (kv:List (α×Int)) (k:α):Nat:=(kv.findIdx fun e=>decide (k=e.1))
def esL (kf:α→Value):Nat→List (α×Int)→List MapEntry
 | _,[]=>[]
 | n,e::r=>⟨kf e.1,.int .i64 e.2,n⟩::esL kf (n+1) r
def esG (kf:α→Value) (kv:List (α×Int)):Array MapEntry:=(esL kf 0 kv).toArray
def mapG (kf:α→Value) (kv:List (α×Int)):HObj:=mapObj (esG kf kv) kv.length
def findI (k:α):List (α×Int)→Nat→Option (Nat×Value)
 | [],_=>none
 | e::r,i=>if k=e.1 then some (i,.int .i64 e.2) else findI k r (i+1)
variable {kf:α→Value} (hk:∀x y,keq (kf x) (kf y)=some (decide (x=y)))
include hk
theorem findV_esL (k:α):∀(kv:List (α×Int)) (n i:Nat),findV (kf k) (esL kf n kv) i=some (findI k kv i)
 | [],_,_=>rfl
 | e::r,n,i=>by
  simp only[esL,findV,hk,Option.bind_some,findI,decide_eq_true_eq,findV_esL k r (n+1) (i+1)]
  split <;> rfl
omit hk in
theorem findI_get (k:α):∀(kv:List (α×Int)) (i:Nat),((findI k kv i).map (·.2)).getD (.int .i64 0)=.int .i64 (getM kv k)∧(findI k kv i).isSome=inM kv k
 | [],_=>⟨rfl,rfl⟩
 | e::r,i=>by
  have ih:=findI_get k r (i+1)
  simp only[findI,getM,inM,List.find?_cons,List.any_cons] at ih⊢
  by_cases h:k=e.1
  ·simp[h]
  ·simpa [h] using ih
theorem lookV_esG (k:α) (kv:List (α×Int)):lookV (esG kf kv) (kf k) (.int .i64 0)=some (.int .i64 (getM kv k),inM kv k):=by
 unfold lookV esG
 rw[List.toList_toArray,findV_esL hk]
 simp only[Option.map_some,(findI_get k kv 0).1,(findI_get k kv 0).2]
omit hk in
theorem esL_append:∀(kv r:List (α×Int)) (n:Nat),esL kf n (kv++r)=esL kf n kv++esL kf (n+kv.length) r
 | [],r,n=>by simp[esL]
 | e::l,r,n=>by simp only[List.cons_append,esL,esL_append l r (n+1),List.length_cons];rw[show n+1+l.length=n+(l.length+1) by omega]
omit hk in
theorem esL_length:∀(kv:List (α×Int)) (n:Nat),(esL kf n kv).length=kv.length
 | [],_=>rfl
 | e::r,n=>by simp[esL,esL_length r]
omit hk in
theorem setM_none (k:α) (v:Int):∀(kv:List (α×Int)) (i:Nat),findI k kv i=none→setM kv k v=kv++[(k,v)]
 | [],_,_=>rfl
 | e::r,i,h=>by
  simp only[findI] at h
  split at h
  ·cases h
  ·rename_i hne;simp only[setM,if_neg hne,setM_none k v r (i+1) h,List.cons_append]
omit hk in
theorem setM_some (k:α) (v:Int):∀(kv:List (α×Int)) (n i j:Nat) (x:Value),findI k kv i=some (i+j,x)→(esL kf n kv).modify j (fun e=>{ e with key:=kf k,val:=.int .i64 v })=esL kf n (setM kv k v)∧(setM kv k v).length=kv.length
 | [],n,i,j,x,h=>by simp[findI] at h
 | e::r,n,i,j,x,h=>by
  simp only[findI] at h
  split at h
  ·rename_i he
   have:j=0:=by simp at h;omega
   subst this
   simp only[esL,setM,if_pos he,List.modify_zero_cons,List.length_cons,and_self]
  ·rename_i hne
   cases j with
   | zero =>
    exfalso
    have key:∀(l:List (α×Int)) (m:Nat),∀q y,findI k l m=some (q,y)→m≤q:=by
     intro l
     induction l with
     | nil=>intro m q y h;simp[findI] at h
     | cons a l ih =>
      intro m q y h
      simp only[findI] at h
      split at h
      ·simp at h;omega
      ·have:=ih _ _ _ h;omega
    have:=key _ _ _ _ h
    omega
   | succ j =>
    have:=setM_some k v r (n+1) (i+1) j x (by rw[show i+1+j=i+(j+1) by omega];exact h)
    simp only[esL,setM,if_neg hne,List.modify_succ_cons,this.1,List.length_cons,this.2,and_self]
theorem putO_esG (k:α) (v:Int) (kv:List (α×Int)):putO (esG kf kv) kv.length (kf k) (.int .i64 v)=some (mapG kf (setM kv k v)):=by
 unfold putO
 have e:(esG kf kv).toList=esL kf 0 kv:=by unfold esG;rw[List.toList_toArray]
 rw[e,findV_esL hk]
 simp only[Option.map_some,Option.some.injEq]
 cases h:findI k kv 0 with
 | none =>
  simp only[putE]
  rw[setM_none k v kv 0 h]
  unfold mapG
  have:(esG kf kv).push ⟨kf k,.int .i64 v,kv.length⟩=esG kf (kv++[(k,v)]):=by
   apply Array.ext'
   simp[esG,esL_append,esL]
  rw[this];simp
 | some r =>
  obtain ⟨j,x⟩:=r
  obtain ⟨h1,h2⟩:=setM_some (kf:=kf) k v kv 0 0 j x (by rw[Nat.zero_add];exact h)
  simp only[putE]
  unfold mapG
  rw[h2]
  have:(esG kf kv).modify j (fun e=>{ e with key:=kf k,val:=.int .i64 v })=esG kf (setM kv k v):=by
   apply Array.ext'
   rw[Array.toList_modify,e,h1];simp[esG]
  rw[this]
end
abbrev kI (x:Int):Value:=.int .i64 x
abbrev kP (x:Int×Int):Value:=.agg #[.int .i64 x.1,.int .i64 x.2]
def mapI (kv:List (Int×Int)):HObj:=mapG kI kv
def mapP (kv:List ((Int×Int)×Int)):HObj:=mapG kP kv
theorem mapOf_I {kv:List (Int×Int)}:mapOf (mapI kv)=some (esG kI kv,kv.length):=rfl
theorem mapOf_P {kv:List ((Int×Int)×Int)}:mapOf (mapP kv)=some (esG kP kv,kv.length):=rfl
theorem lookV_I {kv:List (Int×Int)} {k:Int}:lookV (esG kI kv) (.int .i64 k) (.int .i64 0)=some (.int .i64 (getM kv k),inM kv k):=lookV_esG (fun _ _=>keq_int) k kv
theorem lookV_P {kv:List ((Int×Int)×Int)} {a b:Int}:lookV (esG kP kv) (.agg #[.int .i64 a,.int .i64 b]) (.int .i64 0)=some (.int .i64 (getM kv (a,b)),inM kv (a,b)):=lookV_esG (kf:=kP) (fun _ _=>keq_ag2) (a,b) kv
theorem putO_I {kv:List (Int×Int)} {k v:Int}:putO (esG kI kv) kv.length (.int .i64 k) (.int .i64 v)=some (mapI (setM kv k v)):=putO_esG (fun _ _=>keq_int) k v kv
theorem putO_P {kv:List ((Int×Int)×Int)} {a b v:Int}:putO (esG kP kv) kv.length (.agg #[.int .i64 a,.int .i64 b]) (.int .i64 v)=some (mapP (setM kv (a,b) v)):=putO_esG (kf:=kP) (fun _ _=>keq_ag2) (a,b) v kv
attribute [go_sem] mapOf_I mapOf_P lookV_I lookV_P putO_I putO_P
end Go.Proofs.YtmapdjdnnhlpiaaGreatDoor
