/- Parts of the proof: HiH, HiI, HiJ, HiK. -/
import Derived.Test.YtoknohandclcbaaGreatZc00
import Derived.Laws.StructEq
import Derived.ChangeKeysEq
import Derived.Great.BuildSlice
import Derived.Great.FillDense
import Derived.Laws.MakeOwn
set_option linter.unusedSectionVars false
set_option linter.unusedVariables false
set_option linter.unusedSimpArgs false
namespace Go.Proofs.YtoknohandclcbaaGreat
open Go.RowKit
theorem TI.of_kind (d:TypeDesc) (i:TypeInfo):(TI.of d i).kind=(match d with | .struct _=>1 | .array _ _=>2 | .slice _=>3 | .string=>4 | .map _ _=>5 | .pointer _=>6 | .bool=>7 | .int _=>8 | .interface _=>9 | .func _ _ _=>10 | _=>0):=by cases d <;> rfl
def zH (P:Program) (t:TypeId) (k:Nat):Bool:=match ti P t with | some x=>x.kind == k | none=>false
theorem zGO {P:Program} {t:TypeId} (h:zH P t 7=true):P.underlying t=some .bool:=by
 unfold zH at h
 split at h
 ·rename_i x hx
  obtain ⟨d,i,hd,hi,rfl⟩:=zAe hx
  rw[TI.of_kind] at h
  cases d <;> simp at h
  exact hd
 ·cases h
theorem zHc {P:Program} {t:TypeId} (h:zH P t 9=true):∃ms,P.underlying t=some (.interface ms):=by
 unfold zH at h
 split at h
 ·rename_i x hx
  obtain ⟨d,i,hd,hi,rfl⟩:=zAe hx
  rw[TI.of_kind] at h
  cases d <;> simp at h
  exact ⟨_,hd⟩
 ·cases h
theorem zB7 {P:Program} {t:TypeId} (h:zH P t 3=true):∃e,P.underlying t=some (.slice e):=by
 unfold zH at h
 split at h
 ·rename_i x hx
  obtain ⟨d,i,hd,hi,rfl⟩:=zAe hx
  rw[TI.of_kind] at h
  cases d <;> simp at h
  exact ⟨_,hd⟩
 ·cases h
theorem zAF {P:Program} {t:TypeId} (h:zH P t 4=true):P.underlying t=some .string:=by
 unfold zH at h
 split at h
 ·rename_i x hx
  obtain ⟨d,i,hd,hi,rfl⟩:=zAe hx
  rw[TI.of_kind] at h
  cases d <;> simp at h
  exact hd
 ·cases h
theorem zNj {P:Program} {t:TypeId} (h:zH P t 8=true):∃e,P.underlying t=some (.int e):=by
 unfold zH at h
 split at h
 ·rename_i x hx
  obtain ⟨d,i,hd,hi,rfl⟩:=zAe hx
  rw[TI.of_kind] at h
  cases d <;> simp at h
  exact ⟨_,hd⟩
 ·cases h
def bl (s:ByteArray):List UInt8:=s.data.toList
def str (l:List UInt8):Value:=.string ⟨l.toArray⟩
theorem zBA (s:ByteArray):s.toList=bl s:=ByteArray.toList_eq s
theorem lbeq (a b:List UInt8):(a == b)=decide (a=b):=by by_cases h:a=b <;> simp[h]
def isC:Operand→Bool
 | .const _=>true
 | _=>false
def zB0 (op:BinOp) (k:IntKind) (x y:Int):Option Value :=
 match op with
 | .add=>some (.int k (k.wrap (x+y)))
 | .sub=>some (.int k (k.wrap (x-y)))
 | .mul=>some (.int k (k.wrap (x*y)))
 | .quo=>if y=0 then none else some (.int k (k.wrap (x.tdiv y)))
 | .rem=>if y=0 then none else some (.int k (x.tmod y))
 | .eql=>some (.bool (decide (x=y)))
 | .neq=>some (.bool (!decide (x=y)))
 | .lss=>some (.bool (decide (x<y)))
 | .leq=>some (.bool (decide (x≤y)))
 | .gtr=>some (.bool (decide (y<x)))
 | .geq=>some (.bool (decide (y≤x)))
 | .shr=>if y<0 then none else some (.int k (x.fdiv (2 ^ min y.toNat k.bits)))
 | _=>none
def zRJ (op:BinOp) (x y:ByteArray):Option Value :=
 match op with
 | .add=>if x.size+y.size≤9223372036854775807 then some (.string (x++y)) else none
 | .eql=>some (.bool (decide (bl x=bl y)))
 | .neq=>some (.bool (!decide (bl x=bl y)))
 | .lss=>some (.bool (Op.bytesLess (bl x) (bl y)))
 | .leq=>some (.bool (Op.bytesLess (bl x) (bl y) || decide (bl x=bl y)))
 | .gtr=>some (.bool (!(Op.bytesLess (bl x) (bl y) || decide (bl x=bl y))))
 | .geq=>some (.bool (!Op.bytesLess (bl x) (bl y)))
 | _=>none
def zCd (op:BinOp) (b:Bool):Option Value :=
 match op with
 | .eql=>some (.bool b)
 | .neq=>some (.bool (!b))
 | _=>none
def eqK:List Nat→List HV→List HV→Option Bool
 | [],[],[]=>some true
 | k::ks,.v (.int i x)::a,.v (.int j y)::b=>if k=8∧i=j then (eqK ks a b).map fun r=>decide (x=y) && r else none
 | k::ks,.v (.string x)::a,.v (.string y)::b=>if k=4 then (eqK ks a b).map fun r=>decide (bl x=bl y) && r else none
 | k::ks,.v (.bool x)::a,.v (.bool y)::b=>if k=7 then (eqK ks a b).map fun r=>decide (x=y) && r else none
 | _,_,_=>none
def zTM (P:Program):Nat→List Field→Option (List Nat)
 | _,[]=>some []
 | k,f::fs =>
  match ti P f.type,zTM P (k+1) fs with
  | some x,some ks=>if f.name≠"_"∧f.offset=k∧(x.kind=8∨x.kind=4∨x.kind=7)∧x.size=1 then some (x.kind::ks) else none
  | _,_=>none
def zBN (P:Program) (t:TypeId):Option (List Nat) :=
 match P.underlying t with
 | some (.struct fs)=>if P.stoodInHeld t=false∧P.eqGuardType P.depth t=false then zTM P 0 fs.toList else none
 | some (.array n e) =>
  match ti P e with
  | some x=>if P.eqGuardType P.depth t=false∧(x.kind=8∨x.kind=4∨x.kind=7)∧x.size=1 then some (List.replicate n x.kind) else none
  | none=>none
 | _=>none
def zBE (P:Program) (op:BinOp) (t:TypeId) (cst:Bool) (a b:HV):Option Value :=
 match a,b with
 | .v (.int k x),.v (.int k' y)=>if k=k' then zB0 op k x y else none
 | .v (.string x),.v (.string y)=>zRJ op x y
 | .v (.bool x),.v (.bool y)=>if zH P t 7=true then zCd op (decide (x=y)) else none
 | .ic _ _,.v .nilIface=>if zH P t 9=true then zCd op false else none
 | .v .nilIface,.v .nilIface=>if zH P t 9=true∧cst=true then zCd op true else none
 | .v (.slice none _ _),.v (.slice none 0 0)=>if zH P t 3=true then zCd op true else none
 | .sl rows,.v (.slice none 0 0)=>if zH P t 3=true∧rows.isEmpty=false then zCd op false else none
 | .v (.slice (some _) _ _),.v (.slice none 0 0)=>if zH P t 3=true then zCd op false else none
 | .ag a,.ag b=>(zBN P t).bind fun ks=>(eqK ks a b).bind fun r=>zCd op r
 | _,_=>none
def hbin (P:Program) (op:BinOp) (t:TypeId) (cst:Bool) (a b:HV) (K:HV→Prop):Prop :=
 match zBE P op t cst a b with
 | some v=>K (.v v)
 | none=>False
section
variable {P:Program} {N:Nat} {T:Nat→HV} {H:Heap} {K:KT} {Z:Nat→Prop} {G:List (Option OG)} {FP:Nat→List Nat} {w:World}
theorem RV_v {x y:Value} {fp:List Nat} (h:RV Z G w (.v x) y fp):y=x:=by simp only[RV] at h;exact h.2
def HQ (P:Program) (N:Nat) (o:Oper) (T:Nat→HV) (H:Heap) (K:KT):Prop :=
 ∀B Z G FP ds a w,St N B Z G FP ds T H a w→∃v x,(execOp a.eval o).run P w=.ok (.value v) w∧K x H∧RV Z G w x v []
theorem z6 {o:Oper} (h:HQ P N o T H K):HR P N o T H K:=by
 intro B Z G FP ds a w hs
 obtain ⟨v,x,h1,h2,h3⟩:=h B Z G FP ds a w hs
 exact ⟨.value v,v,w,x,H,Z,G,FP,h1,.inl rfl,h2,h3,hs.inv,GLe.refl _,Evo.refl _ _ _⟩
theorem zJA {o:Oper} {x:Operand} (ho:o.op=.move x∨o.op=.assign x) (hok:zG N o=true) (h:K (hev T x) H):HQ P N o T H K :=
 fun B Z G FP ds a w hs=>⟨a.eval x,hev T x,by rcases ho with ho | ho <;> simp[execOp,ho],h,hs.hev x (zF hok (by rcases ho with ho | ho <;> simp[ho,Op.operands]))⟩
theorem zIz {o:Oper} {c x y:Operand} {t:Bool} (ho:o.op=.pick c x y) (hok:zG N o=true) (hc:hev T c=.v (.bool t)) (h:K (if t=true then hev T x else hev T y) H):HQ P N o T H K :=
 fun B Z G FP ds a w hs=>by
  have h1:=hs.hev c (zF hok (by simp[ho,Op.operands]))
  rw[hc] at h1
  have h1:=RV_v h1
  refine ⟨if t=true then a.eval x else a.eval y,_,?_,h,?_⟩
  ·simp[execOp,ho,h1,asBool]
  ·split
   ·exact hs.hev x (zF hok (by simp[ho,Op.operands]))
   ·exact hs.hev y (zF hok (by simp[ho,Op.operands]))
theorem zFT (d:Nat) {t:TypeId} (hb:P.underlying t=some .bool) (x y:Bool):(Op.equalIn (d+1) t (.bool x) (.bool y)).run P w=.ok (x == y) w:=by
 simp[Op.equalIn,run_underlying hb]
theorem zFr (d:Nat) {t:TypeId} {ms:Array (String×TypeId)} (hb:P.underlying t=some (.interface ms)):(Op.equalIn (d+1) t .nilIface .nilIface).run P w=.ok true w:=by
 simp[Op.equalIn,run_underlying hb]
theorem zFS (d:Nat) {t u:TypeId} {z:Value} {ms:Array (String×TypeId)} (hb:P.underlying t=some (.interface ms)):(Op.equalIn (d+1) t (.iface u z) .nilIface).run P w=.ok false w:=by
 simp[Op.equalIn,run_underlying hb]
theorem zDL (d:Nat) {t e:TypeId} (hb:P.underlying t=some (.slice e)) (n c:Nat):(Op.equalIn (d+1) t (.slice none n c) (.slice none 0 0)).run P w=.ok true w:=by
 simp[Op.equalIn,run_underlying hb]
theorem zBU (d:Nat) {t e:TypeId} (hb:P.underlying t=some (.slice e)) (a:Addr) (n c:Nat):(Op.equalIn (d+1) t (.slice (some a) n c) (.slice none 0 0)).run P w=.ok false w:=by
 simp[Op.equalIn,run_underlying hb]
theorem zRT {Z:Nat→Prop} {G:List (Option OG)} {w:World} {rows:List (List HV)} {y:Value} (h:RV Z G w (.sl rows) y []) (hr:rows.isEmpty=false):∃a n c,y=.slice (some a) n c:=by
 simp only[RV] at h
 obtain ⟨_,a,c,rfl,_,_,h | ⟨b,o,rfl,_⟩⟩:=h
 ·subst h;cases hr
 ·exact ⟨_,_,_,rfl⟩
theorem zEk {x:TI} {t:TypeId} (h:ti P t=some x):zH P t x.kind=true:=by
 unfold zH;rw[h];simp
theorem zEA {t:TypeId} {x:TI} (h:ti P t=some x) (hk:x.kind=8∨x.kind=4∨x.kind=7) {ys:Array Value} {i:Nat} {y:Value} (hy:ys[i]?=some y):(part t ys i).run P w=.ok y w:=by
 have hag:(isAgg t).run P w=.ok false w:=by rw[zFq h];simp only[TI.agg];rcases hk with e | e | e <;> rw[e] <;> rfl
 simp[part,hag,hy]
theorem zFL (d:Nat) (xs ys:Array Value):∀(fs:List Field) (k:Nat) (ks:List Nat) (a b:List HV) (r:Bool),zTM P k fs=some ks→eqK ks a b=some r→
  RL Z G w a (xs.toList.drop k) []→RL Z G w b (ys.toList.drop k) []→(Op.eqFields (d+1) xs ys fs).run P w=.ok r w
 | [],k,ks,a,b,r,hf,he,_,_=>by
  simp only[zTM,Option.some.injEq] at hf
  subst hf
  unfold eqK at he
  split at he <;> simp_all [Op.eqFields]
 | f::fs,k,ks,a,b,r,hf,he,ha,hb=>by
  simp only[zTM] at hf
  split at hf
  ·rename_i x ks' hx hks
   split at hf
   ·rename_i hc
    obtain ⟨hn,ho,hk,hsz⟩:=hc
    obtain rfl:=Option.some.inj hf
    have go:∀(va vb:Value) (a' b' : List HV) (e r' : Bool),RV Z G w (.v va) va []→(Op.equalIn (d+1) f.type va vb).run P w=.ok e w→eqK ks' a' b'=some r'→
      RL Z G w (.v va::a') (xs.toList.drop k) []→RL Z G w (.v vb::b') (ys.toList.drop k) []→(Op.eqFields (d+1) xs ys (f::fs)).run P w=.ok (e && r') w:=by
     intro va vb a' b' e r' _ h1 h2 h3 h4
     simp only[RL] at h3 h4
     obtain ⟨y1,t1,f1,f2,e1,e2,e3,e4⟩:=h3
     obtain ⟨y2,t2,f3,f4,g1,g2,g3,g4⟩:=h4
     obtain ⟨rfl,rfl⟩:=List.append_eq_nil_iff.1 e2.symm
     obtain ⟨rfl,rfl⟩:=List.append_eq_nil_iff.1 g2.symm
     have q1:=RV_v e3;have q2:=RV_v g3
     subst q1 q2
     have p1:xs[k]?=some y1:=by
      have:=congrArg (·[0]?) e1;simpa [List.getElem?_drop] using this
     have p2:ys[k]?=some y2:=by
      have:=congrArg (·[0]?) g1;simpa [List.getElem?_drop] using this
     have d1:xs.toList.drop (k+1)=t1:=by rw[←List.drop_drop,e1];rfl
     have d2:ys.toList.drop (k+1)=t2:=by rw[←List.drop_drop,g1];rfl
     have ih:=zFL d xs ys fs (k+1) ks' a' b' r' hks h2 (by rw[d1];exact e4) (by rw[d2];exact g4)
     simp only[Op.eqFields,if_pos hn,Sem.run_bind,ho,zEA hx hk p1,zEA hx hk p2,h1,Result.andThen_ok,Sem.run_ite]
     cases e with
     | true=>simpa using ih
     | false=>simp
    unfold eqK at he
    split at he
    ·rename_i e1;cases e1
    ·rename_i k' ks'' i u a' j v b' e1
     cases e1
     split at he
     ·rename_i hc
      obtain ⟨hc1,rfl⟩:=hc
      cases hr:eqK ks' a' b' with
      | none=>rw[hr] at he;cases he
      | some r' =>
       rw[hr] at he
       obtain rfl:=Option.some.inj he
       have hu:=zNj (hc1▸zEk hx)
       obtain ⟨ik,hu⟩:=hu
       exact go _ _ a' b' _ r' (by simp[RV]) (by rw[run_equalIn_int w d f.type i ik u v hu];by_cases h:u=v <;> simp[h]) hr ha hb
     ·cases he
    ·rename_i k' ks'' u a' v b' e1
     cases e1
     split at he
     ·rename_i hc
      cases hr:eqK ks' a' b' with
      | none=>rw[hr] at he;cases he
      | some r' =>
       rw[hr] at he
       obtain rfl:=Option.some.inj he
       exact go _ _ a' b' _ r' (by simp[RV]) (by rw[run_equalIn_string w d f.type u v (zAF (hc▸zEk hx)),zBA,zBA,lbeq]) hr ha hb
     ·cases he
    ·rename_i k' ks'' u a' v b' e1
     cases e1
     split at he
     ·rename_i hc
      cases hr:eqK ks' a' b' with
      | none=>rw[hr] at he;cases he
      | some r' =>
       rw[hr] at he
       obtain rfl:=Option.some.inj he
       exact go _ _ a' b' _ r' (by simp[RV]) (by rw[run_equalIn_bool' w d f.type u v (zGO (hc▸zEk hx))];cases u <;> cases v <;> rfl) hr ha hb
     ·cases he
    ·cases he
   ·cases hf
  ·cases hf
theorem zG8 (d:Nat) {e:TypeId} {x:TI} (hx:ti P e=some x) (hk:x.kind=8∨x.kind=4∨x.kind=7) (xs ys:Array Value):∀(m k:Nat) (a b:List HV) (r:Bool),eqK (List.replicate m x.kind) a b=some r→
  RL Z G w a (xs.toList.drop k) []→RL Z G w b (ys.toList.drop k) []→(Op.eqItems (d+1) e 1 xs ys (List.range' k m)).run P w=.ok r w
 | 0,k,a,b,r,he,_,_=>by
  unfold eqK at he
  split at he <;> simp_all [Op.eqItems]
 | m+1,k,a,b,r,he,ha,hb=>by
  have go:∀(va vb:Value) (a' b' : List HV) (e0 r' : Bool),(Op.equalIn (d+1) e va vb).run P w=.ok e0 w→eqK (List.replicate m x.kind) a' b'=some r'→
    RL Z G w (.v va::a') (xs.toList.drop k) []→RL Z G w (.v vb::b') (ys.toList.drop k) []→(Op.eqItems (d+1) e 1 xs ys (List.range' k (m+1))).run P w=.ok (e0 && r') w:=by
   intro va vb a' b' e0 r' h1 h2 h3 h4
   simp only[RL] at h3 h4
   obtain ⟨y1,t1,f1,f2,e1,e2,e3,e4⟩:=h3
   obtain ⟨y2,t2,f3,f4,g1,g2,g3,g4⟩:=h4
   obtain ⟨rfl,rfl⟩:=List.append_eq_nil_iff.1 e2.symm
   obtain ⟨rfl,rfl⟩:=List.append_eq_nil_iff.1 g2.symm
   have q1:=RV_v e3;have q2:=RV_v g3
   subst q1 q2
   have p1:xs[k]?=some y1:=by
    have:=congrArg (·[0]?) e1;simpa [List.getElem?_drop] using this
   have p2:ys[k]?=some y2:=by
    have:=congrArg (·[0]?) g1;simpa [List.getElem?_drop] using this
   have d1:xs.toList.drop (k+1)=t1:=by rw[←List.drop_drop,e1];rfl
   have d2:ys.toList.drop (k+1)=t2:=by rw[←List.drop_drop,g1];rfl
   have ih:=zG8 d hx hk xs ys m (k+1) a' b' r' h2 (by rw[d1];exact e4) (by rw[d2];exact g4)
   rw[List.range'_succ]
   simp only[Op.eqItems,Sem.run_bind,Nat.mul_one,zEA hx hk p1,zEA hx hk p2,h1,Result.andThen_ok,Sem.run_ite]
   cases e0 with
   | true=>simpa using ih
   | false=>simp
  rw[List.replicate_succ] at he
  unfold eqK at he
  split at he
  ·rename_i e1;cases e1
  ·rename_i k' ks'' i u a' j v b' e1
   cases e1
   split at he
   ·rename_i hc
    obtain ⟨hc1,rfl⟩:=hc
    cases hr:eqK (List.replicate m x.kind) a' b' with
    | none=>rw[hr] at he;cases he
    | some r' =>
     rw[hr] at he
     obtain rfl:=Option.some.inj he
     have hu:=zNj (hc1▸zEk hx)
     obtain ⟨ik,hu⟩:=hu
     exact go _ _ a' b' _ r' (by rw[run_equalIn_int w d e i ik u v hu];by_cases h:u=v <;> simp[h]) hr ha hb
   ·cases he
  ·rename_i k' ks'' u a' v b' e1
   cases e1
   split at he
   ·rename_i hc
    cases hr:eqK (List.replicate m x.kind) a' b' with
    | none=>rw[hr] at he;cases he
    | some r' =>
     rw[hr] at he
     obtain rfl:=Option.some.inj he
     exact go _ _ a' b' _ r' (by rw[run_equalIn_string w d e u v (zAF (hc▸zEk hx)),zBA,zBA,lbeq]) hr ha hb
   ·cases he
  ·rename_i k' ks'' u a' v b' e1
   cases e1
   split at he
   ·rename_i hc
    cases hr:eqK (List.replicate m x.kind) a' b' with
    | none=>rw[hr] at he;cases he
    | some r' =>
     rw[hr] at he
     obtain rfl:=Option.some.inj he
     exact go _ _ a' b' _ r' (by rw[run_equalIn_bool' w d e u v (zGO (hc▸zEk hx))];cases u <;> cases v <;> rfl) hr ha hb
   ·cases he
  ·cases he
theorem zIK {t:TypeId} {ks:List Nat} {a b:List HV} {xs ys:Array Value} {r:Bool} (h:zBN P t=some ks) (hr:eqK ks a b=some r) (ha:RL Z G w a xs.toList []) (hb:RL Z G w b ys.toList []) :
  (Op.equal t (.agg xs) (.agg ys)).run P w=.ok r w∧P.eqGuardType P.depth t=false:=by
 unfold zBN at h
 split at h
 ·rename_i fs hu
  split at h
  ·rename_i hc
   refine ⟨?_,hc.2⟩
   have hf:P.fieldsOf t=fs:=by unfold Program.fieldsOf;rw[hu]
   have:=run_equalIn_struct (P:=P) w 9999 t xs ys (by rw[hf];exact hu) hc.1
   rw[hf] at this
   exact this.trans (zFL 9998 xs ys fs.toList 0 ks a b r h hr (by simpa using ha) (by simpa using hb))
  ·cases h
 ·rename_i n e hu
  split at h
  ·rename_i x hx
   split at h
   ·rename_i hc
    obtain rfl:=Option.some.inj h
    refine ⟨?_,hc.1⟩
    obtain ⟨td,inf,htd,hinf,rfl⟩:=zAe hx
    have hcell:P.cellsOf e=1:=by
     have:=hc.2.2
     rw[TI.of_size] at this
     simp[Program.cellsOf,hinf,this]
    have:=run_equalIn_array (P:=P) w 9999 xs ys hu hinf
    rw[hcell,List.range_eq_range'] at this
    exact this.trans (zG8 9998 hx hc.2.1 xs ys n 0 a b r hr (by simpa using ha) (by simpa using hb))
   ·cases h
  ·cases h
 ·cases h
theorem zBb {t:TypeId} {va vb v:Value} {b:Bool} {op:BinOp} (hb1:∀op,op=.eql∨op=.neq→binOp op t va vb=(do let r ←Op.equal t va vb;pure (.bool (if op=.eql then r else !r)))) (h:(Op.equal t va vb).run P w=.ok b w) (hr:zCd op b=some v) :
  (binOp op t va vb).run P w=.ok v w:=by
 unfold zCd at hr
 split at hr
 ·rw[hb1 _ (.inl rfl)];simp only[Sem.run_bind,h,Result.andThen_ok,Sem.run_pure];simpa using hr
 ·rw[hb1 _ (.inr rfl)];simp only[Sem.run_bind,h,Result.andThen_ok,Sem.run_pure];simpa using hr
 ·cases hr
theorem zOv {op:BinOp} {t:TypeId} {k:IntKind} {x y:Int} {v:Value} (h:zB0 op k x y=some v):(binOp op t (.int k x) (.int k y)).run P w=.ok v w:=by
  unfold zB0 at h
  split at h <;> first
    | (cases h;done)
    | (obtain rfl:=Option.some.inj h;first | (simp only[binOp,Op.intArith,ne_eq,not_true,if_false];rfl) | (simp only[binOp,Op.intCmp,ne_eq,not_true,if_false,Sem.run_pure];congr 2;first | rfl | (simp[bne];done)))
    | (split at h
       · cases h
       · rename_i hy;obtain rfl:=Option.some.inj h;first | (simp only[binOp,Op.intDiv,ne_eq,not_true,if_false,hy];rfl) | (simp only[binOp,Op.shift,hy,if_false];rfl))
theorem zOt {op:BinOp} {t:TypeId} {x y:ByteArray} {v:Value} (h:zRJ op x y=some v):(binOp op t (.string x) (.string y)).run P w=.ok v w:=by
  unfold zRJ at h
  split at h <;> first
    | (cases h;done)
    | (obtain rfl:=Option.some.inj h;simp only[binOp,Op.stringOp,zBA,lbeq,Sem.run_pure];done)
    | (split at h
       · rename_i hs
         obtain rfl:=Option.some.inj h
         simp only[binOp,Op.stringOp]
         have hmx:IntKind.i64.max=9223372036854775807:=by decide
         rw[if_neg (by rw[hmx];omega)]
         rfl
       · cases h)
theorem zWl {op:BinOp} {t:TypeId} {a b:HV} {Kv:HV→Prop} {x y:Operand} {va vb:Value} (ha:RV Z G w a va []) (hb:RV Z G w b vb []) (h:hbin P op t (isC x || isC y) a b Kv) :
  ∃v h',(eqGuard op t x y va vb).run P w=.ok () w∧(binOp op t va vb).run P w=.ok v w∧Kv h'∧RV Z G w h' v []:=by
 unfold hbin at h
 split at h
 ·rename_i v hres
  refine ⟨v,.v v,?_,?_,h,by simp[RV]⟩
  ·unfold zBE at hres
   split at hres
   ·rw[RV_v ha,RV_v hb];cases op <;> rfl
   ·rw[RV_v ha,RV_v hb];cases op <;> rfl
   ·rw[RV_v ha,RV_v hb];cases op <;> rfl
   ·simp only[RV] at ha;obtain ⟨_,z',rfl,_⟩:=ha;rw[RV_v hb];cases op <;> rfl
   ·rw[RV_v ha,RV_v hb]
    split at hres
    ·rename_i hk
     cases x <;> cases y <;> simp[isC] at hk <;> cases op <;> rfl
    ·cases hres
   ·rw[RV_v ha,RV_v hb];cases op <;> rfl
   ·rename_i rows
    split at hres
    ·rename_i hk
     obtain ⟨a,n,c,rfl⟩:=zRT ha hk.2
     rw[RV_v hb];cases op <;> rfl
    ·cases hres
   ·rw[RV_v ha,RV_v hb];cases op <;> rfl
   ·rename_i as bs
    simp only[RV] at ha hb
    obtain ⟨xs,rfl,ha⟩:=ha
    obtain ⟨ys,rfl,hb⟩:=hb
    cases hk:zBN P t with
    | none=>rw[hk] at hres;cases hres
    | some ks =>
     rw[hk] at hres
     simp only[Option.bind_some] at hres
     cases hq:eqK ks as bs with
     | none=>rw[hq] at hres;cases hres
     | some r=>exact run_eqGuard_agg w op t x y xs ys (zIK hk hq ha hb).2
   ·cases hres
  ·unfold zBE at hres
   split at hres
   ·rw[RV_v ha,RV_v hb]
    split at hres
    ·rename_i hk;subst hk;exact zOv hres
    ·cases hres
   ·rw[RV_v ha,RV_v hb];exact zOt hres
   ·rw[RV_v ha,RV_v hb]
    split at hres
    ·rename_i hk
     exact zBb (fun op ho=>by rcases ho with rfl | rfl <;> rfl) (zFT 9999 (zGO hk) _ _) (by simpa [BEq.beq] using hres)
    ·cases hres
   ·simp only[RV] at ha;obtain ⟨_,z',rfl,_⟩:=ha;rw[RV_v hb]
    split at hres
    ·rename_i hk
     obtain ⟨ms,hu⟩:=zHc hk
     exact zBb (fun op ho=>by rcases ho with rfl | rfl <;> rfl) (zFS 9999 hu) hres
    ·cases hres
   ·rw[RV_v ha,RV_v hb]
    split at hres
    ·rename_i hk
     obtain ⟨ms,hu⟩:=zHc hk.1
     exact zBb (fun op ho=>by rcases ho with rfl | rfl <;> rfl) (zFr 9999 hu) hres
    ·cases hres
   ·rw[RV_v ha,RV_v hb]
    split at hres
    ·rename_i hk
     obtain ⟨e,hu⟩:=zB7 hk
     exact zBb (fun op ho=>by rcases ho with rfl | rfl <;> rfl) (zDL 9999 hu _ _) hres
    ·cases hres
   ·rename_i rows
    split at hres
    ·rename_i hk
     obtain ⟨e,hu⟩:=zB7 hk.1
     obtain ⟨a,n,c,rfl⟩:=zRT ha hk.2
     rw[RV_v hb]
     exact zBb (fun op ho=>by rcases ho with rfl | rfl <;> rfl) (zBU 9999 hu a n c) hres
    ·cases hres
   ·rename_i a n c
    split at hres
    ·rename_i hk
     obtain ⟨e,hu⟩:=zB7 hk
     rw[RV_v ha,RV_v hb]
     exact zBb (fun op ho=>by rcases ho with rfl | rfl <;> rfl) (zBU 9999 hu a n c) hres
    ·cases hres
   ·rename_i as bs
    simp only[RV] at ha hb
    obtain ⟨xs,rfl,ha⟩:=ha
    obtain ⟨ys,rfl,hb⟩:=hb
    cases hk:zBN P t with
    | none=>rw[hk] at hres;cases hres
    | some ks =>
     rw[hk] at hres
     simp only[Option.bind_some] at hres
     cases hq:eqK ks as bs with
     | none=>rw[hq] at hres;cases hres
     | some r =>
      rw[hq] at hres
      exact zBb (fun op ho=>by rcases ho with rfl | rfl <;> rfl) (zIK hk hq ha hb).1 hres
   ·cases hres
 ·exact h.elim
theorem zY3 {o:Oper} {op:BinOp} {t t' : TypeId} {x y:Operand} (ho:o.op=.binOp op t x y t') (hok:zG N o=true) (h:hbin P op t (isC x || isC y) (hev T x) (hev T y) (fun v=>K v H)):HQ P N o T H K :=
 fun B Z G FP ds a w hs=>by
  obtain ⟨v,h',h1,h2,h3,h4⟩:=zWl (hs.hev x (zF hok (by simp[ho,Op.operands]))) (hs.hev y (zF hok (by simp[ho,Op.operands]))) h
  exact ⟨v,h',by simp only[execOp,ho,Sem.run_bind,h1,h2,Result.andThen_ok,Sem.run_pure],h3,h4⟩
end
end Go.Proofs.YtoknohandclcbaaGreat
namespace Go.Proofs.YtoknohandclcbaaGreat
open Go.RowKit
def zBZ (H:Heap) (a:HV):Bool :=
 match a with
 | .pt id n _ _=>match H[id]? with | some (some ob)=>n == ob.rows.length && ob.rows.length != 0 | _=>false
 | .fp _ _ _=>true
 | _=>false
def zMI (a:HV) (k:Nat):HV :=
 match a with
 | .pt id n r o=>.pt id n r (o+k)
 | .fp rows i o=>.fp rows i (o+k)
 | x=>x
def zI (P:Program) (s:TypeId) (i:Nat):Option (Nat×TI) :=
 match ti P s with
 | some x =>
  if x.kind=1 then
   match x.flds[i]? with
   | some (off,ft)=>(ti P ft).map fun fx=>(off,fx)
   | none=>none
  else none
 | none=>none
def zDE (P:Program) (H:Heap) (s:TypeId) (a:HV) (i:Nat) (K:KT):Prop :=
 match zI P s i with
 | some (off,fx)=>fx.size≠0∧zBZ H a=true∧K (zMI a off) H
 | none=>False
def zNr (P:Program) (H:Heap) (s:TypeId) (a:HV) (i:Nat) (K:KT):Prop :=
 match zI P s i with
 | some (off,fx) =>
  match a with
  | .ag cs=>okTI fx=true∧off+fx.size≤cs.length∧K (mkV fx ((cs.drop off).take fx.size)) H
  | _=>False
 | none=>False
def zL (P:Program) (t:TypeId) (kind:Nat):Option (TI×TypeId×TI) :=
 match ti P t with
 | some x=>if x.kind=kind then (ti P x.elem).map fun y=>(x,x.elem,y) else none
 | none=>none
def zDD (P:Program) (H:Heap) (t:TypeId) (a i:HV) (K:KT):Prop :=
 match i with
 | .v (.int k z) =>
  match a with
  | .sl rows =>
   match zL P t 3 with
   | some (_,_,e)=>0≤z∧z<(rows.length:Int)∧(∀r∈rows,r.length=e.size)∧K (.fp rows z.toNat 0) H
   | none=>False
  | .hd id off len =>
   match zL P t 3 with
   | some (_,_,e) =>
    match H[id]? with
    | some (some ob)=>off+len=ob.rows.length∧ob.sz=e.size∧0≤z∧z<(len:Int)∧K (.pt id ob.rows.length (off+z.toNat) 0) H
    | _=>False
   | none=>False
  | x =>
   match zL P t 2 with
   | some (arr,_,e)=>zBZ H x=true∧0≤z∧z<(arr.num:Int)∧K (zMI x (z.toNat*e.size)) H
   | none=>False
 | _=>False
def zNp (P:Program) (H:Heap) (t:TypeId) (a i:HV) (K:KT):Prop :=
 match a,i with
 | .v (.string s),.v (.int k z) =>
  zH P t 4=true∧0≤z∧(match (bl s)[z.toNat]? with
   | some b=>K (.v (.int .u8 (b.toNat:Int))) H
   | none=>False)
 | .ag cs,.v (.int k z) =>
  match zL P t 2 with
  | some (arr,_,e)=>okTI e=true∧0≤z∧z<(arr.num:Int)∧z.toNat*e.size+e.size≤cs.length∧K (mkV e ((cs.drop (z.toNat*e.size)).take e.size)) H
  | none=>False
 | _,_=>False
def zHM (T:Nat→HV):Option Operand→Option Int
 | none=>some 0
 | some x=>match hev T x with | .v (.int _ z)=>some z | _=>none
def zGc (T:Nat→HV) (n:Nat):Option Operand→Option Int
 | none=>some (n:Int)
 | some x=>match hev T x with | .v (.int _ z)=>some z | _=>none
def hcut (P:Program) (T:Nat→HV) (H:Heap) (t:TypeId) (x:HV) (lo hi:Option Operand) (K:KT):Prop :=
 match x with
 | .v (.string s) =>
  match zHM T lo,zGc T s.size hi with
  | some l,some h=>zH P t 4=true∧0≤l∧l≤h∧h≤(s.size:Int)∧K (.v (.string (s.extract l.toNat h.toNat))) H
  | _,_=>False
 | .sl rows =>
  match zL P t 3,zHM T lo,zGc T rows.length hi with
  | some (_,_,e),some l,some h=>(∀r∈rows,r.length=e.size)∧0≤l∧l≤h∧h≤(rows.length:Int)∧K (.sl ((rows.drop l.toNat).take (h.toNat-l.toNat))) H
  | _,_,_=>False
 | .hd id off len =>
  match zL P t 3,zHM T lo,zGc T len hi with
  | some (_,_,e),some l,some h =>
   match H[id]? with
   | some (some ob)=>off+len=ob.rows.length∧ob.sz=e.size∧0≤l∧l≤h∧h=(len:Int)∧K (.hd id (off+l.toNat) (len-l.toNat)) H
   | _=>False
  | _,_,_=>False
 | _=>False
def hlen (P:Program) (H:Heap) (t:TypeId) (x:HV) (K:KT):Prop :=
 match x with
 | .v (.string s)=>zH P t 4=true∧K (.v (.int .i64 (s.size:Int))) H
 | .v (.slice none 0 0)=>zH P t 3=true∧K (.v (.int .i64 0)) H
 | .sl rows=>zH P t 3=true∧K (.v (.int .i64 (rows.length:Int))) H
 | .hd id off len =>
  match H[id]? with
  | some (some ob)=>off+len=ob.rows.length∧zH P t 3=true∧K (.v (.int .i64 (len:Int))) H
  | _=>False
 | _=>False
section
variable {P:Program} {N:Nat} {T:Nat→HV} {H:Heap} {K:KT} {Z:Nat→Prop} {G:List (Option OG)} {FP:Nat→List Nat} {w:World}
theorem zBX (b o k:Nat):(⟨b,o,none⟩:Addr).add k=⟨b,o+k,none⟩:=by unfold Addr.add;split <;> simp_all
theorem zML (hi:HInv Z G FP H w) {a:HV} {y:Value} (hl:zBZ H a=true) (hv:RV Z G w a y []):∃b o,y=.pointer (some ⟨b,o,none⟩)∧∀k,RV Z G w (zMI a k) (.pointer (some ⟨b,o+k,none⟩)) []:=by
 unfold zBZ at hl
 split at hl
 ·rename_i id n r o
  split at hl
  ·rename_i ob ho
   simp only[Bool.and_eq_true,beq_iff_eq,bne_iff_ne] at hl
   obtain ⟨g,hg,hob⟩:=hi.live id ob ho
   simp only[RV] at hv
   obtain ⟨_,_,hlt,h⟩:=hv
   obtain ⟨b,hb,rfl⟩:=(h g hg).2 (by rw[hl.1,hob.n])
   refine ⟨b,_,rfl,fun k=>?_⟩
   simp only[zMI,RV]
   refine ⟨trivial,rfl,hlt,fun g' hg'=>⟨(h g' hg').1,fun e=>?_⟩⟩
   rw[hg] at hg'
   cases hg'
   exact ⟨b,hb,by rw[Nat.add_assoc]⟩
  ·cases hl
 ·rename_i rows i o
  simp only[RV] at hv
  obtain ⟨_,b,k,rfl,hz,hu,hrr⟩:=hv
  refine ⟨b,_,rfl,fun q=>?_⟩
  simp only[zMI,RV]
  exact ⟨trivial,b,k,by rw[Nat.add_assoc],hz,hu,hrr⟩
 ·cases hl
theorem zHg {s:TypeId} {i off:Nat} {fx:TI} (h:zI P s i=some (off,fx)):∃fs f,P.underlying s=some (.struct fs)∧fs[i]?=some f∧f.offset=off∧ti P f.type=some fx:=by
 unfold zI at h
 split at h
 ·rename_i x hx
  obtain ⟨d,inf,hd,hi,rfl⟩:=zAe hx
  split at h
  ·rename_i hk
   rw[TI.of_kind] at hk
   cases d <;> simp at hk
   rename_i fs
   simp only[TI.of,List.getElem?_map] at h
   cases hf:fs[i]? with
   | none=>rw[Array.getElem?_toList] at h;simp[hf] at h
   | some f =>
    rw[Array.getElem?_toList,hf] at h
    simp only[Option.map_some] at h
    cases ht:ti P f.type with
    | none=>simp[ht] at h
    | some fx' =>
     simp[ht] at h
     exact ⟨fs,f,hd,hf,h.1,h.2▸ht⟩
  ·cases h
 ·cases h
theorem zFP {o:Oper} {s:TypeId} {a:Operand} {i:Nat} (ho:o.op=.fieldAddr s a i) (hok:zG N o=true) (h:zDE P H s (hev T a) i K):HQ P N o T H K :=
 fun B Z G FP ds act w hs=>by
  unfold zDE at h
  split at h
  ·rename_i off fx hf
   obtain ⟨hz,hl,hK⟩:=h
   obtain ⟨fs,f,hu,hfi,rfl,ht⟩:=zHg hf
   obtain ⟨b,q,hy,hm⟩:=zML hs.inv hl (hs.hev a (zF hok (by simp[ho,Op.operands])))
   refine ⟨.pointer (some ⟨b,q+f.offset,none⟩),_,?_,hK,hm _⟩
   simp[execOp,ho,Instr.fieldAt,run_underlying hu,hfi,hy,Instr.sureAddr,fieldPlace,zT ht,hz,zBX]
  ·exact h.elim
theorem zN4 {t:TypeId} {x:TI} (hx:ti P t=some x) (hk:okTI x=true) {ys:Array Value} {off:Nat} (hsz:off+x.size≤ys.size) :
  (part t ys off).run P w=.ok (if x.agg then .agg ((ys.toList.drop off).take x.size).toArray else ((ys.toList.drop off).take x.size).headD undef) w:=by
 unfold part
 simp only[Sem.run_bind,zFq hx,Result.andThen_ok]
 cases hg:x.agg with
 | true =>
  simp only[if_true,Sem.run_bind,zT hx,Result.andThen_ok,Sem.run_pure]
  congr 2
  apply Array.ext'
  rw[Array.toList_extract]
  simp[List.extract_eq_take_drop,List.take_drop]
 | false =>
  have h1:=zIZ hk hg
  rw[h1] at hsz⊢
  simp only[Bool.false_eq_true,if_false]
  have hlt:off<ys.size:=by omega
  have:ys[off]?=some ys[off]:=by simp[hlt]
  rw[this]
  simp only[Sem.run_pure]
  rw[List.drop_eq_getElem_cons (by simpa using hlt)]
  simp
theorem zOY {o:Oper} {s:TypeId} {a:Operand} {i:Nat} (ho:o.op=.field s a i) (hok:zG N o=true) (h:zNr P H s (hev T a) i K):HQ P N o T H K :=
 fun B Z G FP ds act w hs=>by
  unfold zNr at h
  split at h
  ·rename_i off fx hf
   split at h
   ·rename_i cs hcs
    obtain ⟨hk,hsz,hK⟩:=h
    obtain ⟨fs,f,hu,hfi,rfl,ht⟩:=zHg hf
    have hv:=hs.hev a (zF hok (by simp[ho,Op.operands]))
    rw[hcs] at hv
    simp only[RV] at hv
    obtain ⟨ys,hy,hl⟩:=hv
    have hlen:=zS _ _ _ hl
    have hnil:tvs ((cs.drop f.offset).take fx.size)=true∨True:=.inr trivial
    obtain ⟨f1,f2,hf12,_,h2⟩:=zAr _ _ _ f.offset hl
    obtain ⟨f3,f4,hf34,h3,_⟩:=zAr _ _ _ fx.size h2
    have e2:f2=[]:=(List.append_eq_nil_iff.1 hf12.symm).2
    subst e2
    have e3:f3=[]:=(List.append_eq_nil_iff.1 hf34.symm).1
    subst e3
    refine ⟨_,_,?_,hK,zNh hk (by simp;rw[Array.length_toList] at hlen;omega) h3⟩
    simp only[execOp,ho,Instr.field,Sem.run_bind,run_underlying hu,Result.andThen_ok,hfi,hy,asAgg,Sem.run_pure]
    rw[zN4 ht hk (by rw[Array.length_toList] at hlen;omega)]
    rfl
   ·exact h.elim
  ·exact h.elim
theorem zGa {t:TypeId} {kind:Nat} {x y:TI} {e:TypeId} (h:zL P t kind=some (x,e,y)):∃d i,P.underlying t=some d∧x=TI.of d i∧x.kind=kind∧e=x.elem∧ti P e=some y:=by
 unfold zL at h
 split at h
 ·rename_i x' hx
  obtain ⟨d,i,hd,hi,rfl⟩:=zAe hx
  split at h
  ·rename_i hk
   cases he:ti P (TI.of d i).elem with
   | none=>simp[he] at h
   | some y' =>
    simp[he] at h
    obtain ⟨rfl,rfl,rfl⟩:=h
    exact ⟨d,i,hd,rfl,hk,rfl,he⟩
  ·cases h
 ·cases h
theorem zAT {t:TypeId} {x y:TI} {e:TypeId} (h:zL P t 3=some (x,e,y)):P.underlying t=some (.slice e)∧ti P e=some y:=by
 obtain ⟨d,i,hd,rfl,hk,rfl,he⟩:=zGa h
 rw[TI.of_kind] at hk
 cases d <;> simp at hk
 exact ⟨hd,he⟩
theorem zEv {t:TypeId} {x y:TI} {e:TypeId} (h:zL P t 2=some (x,e,y)):P.underlying t=some (.array x.num e)∧ti P e=some y:=by
 obtain ⟨d,i,hd,rfl,hk,rfl,he⟩:=zGa h
 rw[TI.of_kind] at hk
 cases d <;> simp at hk
 exact ⟨hd,he⟩
theorem zCh {rows:List (List HV)} {n:Nat} (h:∀r∈rows,r.length=n) (hne:rows≠[]):zFv rows=n:=by
 cases rows with
 | nil=>exact absurd rfl hne
 | cons r t=>simp only[zFv,List.headD_cons];exact h r (by simp)
theorem zEK {id off len:Nat} {y:Value} {ob:HObj} (hi:HInv Z G FP H w) (ho:H[id]?=some (some ob)) (hn:off+len=ob.rows.length) (hv:RV Z G w (.hd id off len) y []) :
  ∃g,G[id]?=some (some g)∧OB Z G w ob g (FP id)∧View g off len y:=by
 obtain ⟨g,hg,hob⟩:=hi.live id ob ho
 simp only[RV] at hv
 exact ⟨g,hg,hob,(hv.2.2.2 g hg).2 (by rw[hn,hob.n])⟩
theorem zCI {t e:TypeId} {te:TI} (hu:P.underlying t=some (.slice e)) (he:ti P e=some te) {b o len cap:Nat} {k:IntKind} {z:Int} (h0:0≤z) (h1:z<(len:Int)) :
  (Instr.indexAt t (.slice (some ⟨b,o,none⟩) len cap) (.int k z)).run P w=.ok (.pointer (some ⟨b,o+z.toNat*te.size,none⟩)) w:=by
 simp[Instr.indexAt,asIntOf,run_underlying hu,h0,h1,zT he,zBX]
theorem zE7 {t e:TypeId} {te:TI} {n:Nat} (hu:P.underlying t=some (.array n e)) (he:ti P e=some te) {b o:Nat} {k:IntKind} {z:Int} (h0:0≤z) (h1:z<(n:Int)) :
  (Instr.indexAt t (.pointer (some ⟨b,o,none⟩)) (.int k z)).run P w=.ok (.pointer (some ⟨b,o+z.toNat*te.size,none⟩)) w:=by
 simp[Instr.indexAt,asIntOf,run_underlying hu,h0,h1,zT he,zBX,Instr.sureAddr]
theorem zFO {o:Oper} {t:TypeId} {a i:Operand} (ho:o.op=.indexAddr t a i) (hok:zG N o=true) (h:zDD P H t (hev T a) (hev T i) K):HQ P N o T H K :=
 fun B Z G FP ds act w hs=>by
  have ha:=hs.hev a (zF hok (by simp[ho,Op.operands]))
  have hi:=hs.hev i (zF hok (by simp[ho,Op.operands]))
  unfold zDD at h
  split at h
  ·rename_i k z hz
   rw[hz] at hi
   have hi:=RV_v hi
   split at h
   ·rename_i rows hr
    split at h
    ·rename_i x e te he
     obtain ⟨h0,h1,hu,hK⟩:=h
     obtain ⟨hs1,hs2⟩:=zAT he
     rw[hr] at ha
     have ha':=ha
     simp only[RV] at ha
     obtain ⟨_,ad,c,hy,hc,hm,hx⟩:=ha
     have hne:rows≠[]:=fun e=>by subst e;simp at h1;omega
     rcases hx with hx | ⟨b,q,rfl,hzb,hun,hrr⟩
     ·exact absurd hx hne
     ·refine ⟨.pointer (some ⟨b,q+z.toNat*te.size,none⟩),_,?_,hK,?_⟩
      ·simp only[execOp,ho,hy,hi,Sem.run_bind,zCI hs1 hs2 h0 h1,Result.andThen_ok,Sem.run_pure]
      ·simp only[RV]
       exact ⟨trivial,b,q,by rw[zCh hu hne,Nat.add_zero],hzb,hun,hrr⟩
    ·exact h.elim
   ·rename_i id off len hr
    split at h
    ·rename_i x e te he
     split at h
     ·rename_i ob hob
      obtain ⟨hn,hsz,h0,h1,hK⟩:=h
      obtain ⟨hs1,hs2⟩:=zAT he
      rw[hr] at ha
      obtain ⟨g,hg,hOB,hview⟩:=zEK hs.inv hob hn ha
      unfold View at hview
      split at hview
      ·rename_i hbn
       obtain ⟨hview,hv1,hv2⟩:=hview
       rcases hOB.at_ with ⟨_,e1,_⟩ | ⟨b,cells,f,e1,_⟩ | ⟨u3,hs3,obj3,f3,e1,e3,_⟩
       ·rw[e1] at hn;simp at hn;omega
       ·rw[hbn] at e1;cases e1
       ·have:=congrArg List.length e3;simp only[List.length_cons,List.length_nil] at this;omega
      ·rename_i b hb
       obtain ⟨ad,hy,hA⟩:=hview
       have hlen0:len≠0:=by omega
       rw[hA (.inl hlen0)] at hy
       refine ⟨.pointer (some ⟨b,off*g.sz+z.toNat*te.size,none⟩),_,?_,hK,?_⟩
       ·simp only[execOp,ho,hy,hi,Sem.run_bind,zCI hs1 hs2 h0 h1,Result.andThen_ok,Sem.run_pure]
       ·simp only[RV]
        refine ⟨trivial,rfl,hs.inv.lt hob,fun g' hg'=>?_⟩
        rw[hg] at hg';cases hg'
        refine ⟨by rw[hOB.n];exact Nat.le_refl _,fun _=>⟨b,hb,?_⟩⟩
        rw[hOB.sz,hsz,Nat.add_mul,Nat.add_zero]
     ·exact h.elim
    ·exact h.elim
   ·split at h
    ·rename_i x e te he
     obtain ⟨hl,h0,h1,hK⟩:=h
     obtain ⟨hs1,hs2⟩:=zEv he
     obtain ⟨b,q,hy,hm⟩:=zML hs.inv hl ha
     refine ⟨.pointer (some ⟨b,q+z.toNat*te.size,none⟩),_,?_,hK,hm _⟩
     simp only[execOp,ho,hy,hi,Sem.run_bind,zE7 hs1 hs2 h0 h1,Result.andThen_ok,Sem.run_pure]
    ·exact h.elim
  ·exact h.elim
theorem zY2 {o:Oper} {t:TypeId} {x:Operand} (ho:o.op=.call { callee:=.builtin .len,args:=#[x],argTypes:=#[t] }) (hok:zG N o=true) (h:hlen P H t (hev T x) K):HQ P N o T H K :=
 fun B Z G FP ds act w hs=>by
  have hx:=hs.hev x (zF hok (by simp[ho,Op.operands,Call.operands]))
  unfold hlen at h
  split at h
  ·rename_i s e
   rw[e] at hx
   have hx:=RV_v hx
   refine ⟨_,_,?_,h.2,by simp[RV];rfl⟩
   simp[execOp,ho,resolve,invoke,builtin,Builtin.len_,run_underlying (zAF h.1),hx,goInt]
  ·rename_i e
   rw[e] at hx
   have hx:=RV_v hx
   obtain ⟨el,hu⟩:=zB7 h.1
   refine ⟨_,_,?_,h.2,by simp[RV];rfl⟩
   simp[execOp,ho,resolve,invoke,builtin,Builtin.len_,run_underlying hu,hx,goInt]
  ·rename_i rows e
   rw[e] at hx
   simp only[RV] at hx
   obtain ⟨_,ad,c,hy,_⟩:=hx
   obtain ⟨el,hu⟩:=zB7 h.1
   refine ⟨_,_,?_,h.2,by simp[RV];rfl⟩
   simp[execOp,ho,resolve,invoke,builtin,Builtin.len_,run_underlying hu,hy,goInt]
  ·rename_i id off len e
   split at h
   ·rename_i ob hob
    obtain ⟨hn,hk,hK⟩:=h
    rw[e] at hx
    obtain ⟨g,hg,hOB,hview⟩:=zEK hs.inv hob hn hx
    obtain ⟨el,hu⟩:=zB7 hk
    unfold View at hview
    split at hview
    ·rename_i hbn
     obtain ⟨hview,hv1,hv2⟩:=hview
     have hl0:len=0:=by
      rcases hOB.at_ with ⟨_,e1,_⟩ | ⟨b,cells,f,e1,_⟩ | ⟨u3,hs3,obj3,f3,e1,e3,_⟩
      ·rw[e1] at hn;simp at hn;omega
      ·rw[hbn] at e1;cases e1
      ·have:=congrArg List.length e3;simp only[List.length_cons,List.length_nil] at this;omega
     subst hl0
     refine ⟨_,_,?_,hK,by simp[RV];rfl⟩
     simp[execOp,ho,resolve,invoke,builtin,Builtin.len_,run_underlying hu,hview,goInt]
    ·obtain ⟨ad,hy,_⟩:=hview
     refine ⟨_,_,?_,hK,by simp[RV];rfl⟩
     simp[execOp,ho,resolve,invoke,builtin,Builtin.len_,run_underlying hu,hy,goInt]
   ·exact h.elim
  ·exact h.elim
end
end Go.Proofs.YtoknohandclcbaaGreat
namespace Go.Proofs.YtoknohandclcbaaGreat
open Go.RowKit
def hun (op:UnOp) (x:HV) (K:HV→Prop):Prop :=
 match op,x with
 | .not,.v (.bool b)=>K (.v (.bool (!b)))
 | .neg,.v (.int k n)=>K (.v (.int k (k.wrap (0-n))))
 | _,_=>False
def zF6 (x:HV) (i:Nat) (K:HV→Prop):Prop :=
 match x with
 | .tu vs=>match vs[i]? with | some v=>K v | none=>False
 | _=>False
def zAg (P:Program) (t:TypeId):Option IntKind:=match P.underlying t with | some (.int k)=>some k | _=>none
def zNs (P:Program) (src dst:TypeId) (x:HV) (K:HV→Prop):Prop :=
 match x with
 | .v (.int k n)=>(match zAg P src,zAg P dst with
  | some _,some k'=>K (.v (.int k' (k'.wrap n)))
  | _,_=>False)
 | .v (.string s)=>zH P src 4=true∧zH P dst 4=true∧K (.v (.string s))
 | _=>False
def zNq (P:Program) (t:TypeId) (x:HV) (K:HV→Prop):Prop :=
 match ti P t with
 | some y=>y.kind≠9∧tv x=true∧K (.ic t x)
 | none=>False
def zSm (H:Heap) (x:HV) (K:HV→Prop):Prop :=
 match x with
 | .fp _ _ _=>K x
 | .pt id n r o=>zBZ H x=true∧K x
 | .fn _ _=>K x
 | .ic _ _=>K x
 | _=>False
section
variable {P:Program} {N:Nat} {T:Nat→HV} {H:Heap} {K:KT} {Z:Nat→Prop} {G:List (Option OG)} {FP:Nat→List Nat} {w:World}
theorem z4T {o:Oper} {op:UnOp} {t:TypeId} {x:Operand} (ho:o.op=.unOp op t x) (hok:zG N o=true) (h:hun op (hev T x) (fun v=>K v H)):HQ P N o T H K :=
 fun B Z G FP ds a w hs=>by
  have hx:=hs.hev x (zF hok (by simp[ho,Op.operands]))
  unfold hun at h
  split at h
  ·rename_i b e
   rw[e] at hx
   exact ⟨.bool (!b),_,by simp[execOp,ho,RV_v hx,Op.unary],h,by simp[RV]⟩
  ·rename_i k n e
   rw[e] at hx
   exact ⟨.int k (k.wrap (0-n)),_,by simp[execOp,ho,RV_v hx,Op.unary,Op.intArith],h,by simp[RV]⟩
  ·exact h.elim
theorem zHw {o:Oper} {x:Operand} {i:Nat} (ho:o.op=.extract x i) (hok:zG N o=true) (h:zF6 (hev T x) i (fun v=>K v H)):HQ P N o T H K :=
 fun B Z G FP ds a w hs=>by
  have hx:=hs.hev x (zF hok (by simp[ho,Op.operands]))
  unfold zF6 at h
  split at h
  ·rename_i vs e
   rw[e] at hx
   simp only[RV] at hx
   obtain ⟨ys,hy,hl⟩:=hx
   split at h
   ·rename_i v hv
    obtain ⟨y,f,hyi,hr,hsub⟩:=zOS _ _ _ hl i v hv
    have:f=[]:=List.eq_nil_of_sublist_nil hsub
    subst this
    refine ⟨y,v,?_,h,hr⟩
    rw[Array.getElem?_toList] at hyi
    simp[execOp,ho,hy,Instr.extract,hyi]
   ·exact h.elim
  ·exact h.elim
theorem zAj {t:TypeId} {k:IntKind} (h:zAg P t=some k):P.underlying t=some (.int k):=by
 unfold zAg at h
 split at h
 ·rename_i k' hk;cases h;exact hk
 ·cases h
theorem zOZ {o:Oper} {src dst:TypeId} {x:Operand} (ho:o.op=.convert src dst x) (hok:zG N o=true) (h:zNs P src dst (hev T x) (fun v=>K v H)):HQ P N o T H K :=
 fun B Z G FP ds a w hs=>by
  have hx:=hs.hev x (zF hok (by simp[ho,Op.operands]))
  unfold zNs at h
  split at h
  ·rename_i k n e
   rw[e] at hx
   split at h
   ·rename_i k1 k2 h1 h2
    refine ⟨_,_,?_,h,by simp[RV];rfl⟩
    simp[execOp,ho,RV_v hx,convert,run_underlying (zAj h1),run_underlying (zAj h2),Conv.intToInt]
   ·exact h.elim
  ·rename_i s e
   rw[e] at hx
   refine ⟨_,_,?_,h.2.2,by simp[RV];rfl⟩
   simp[execOp,ho,RV_v hx,convert,run_underlying (zAF h.1),run_underlying (zAF h.2.1)]
  ·exact h.elim
theorem zOX {o:Oper} {t:TypeId} {x:Operand} (ho:o.op=.makeInterface t x) (hok:zG N o=true) (h:zNq P t (hev T x) (fun v=>K v H)):HQ P N o T H K :=
 fun B Z G FP ds a w hs=>by
  have hx:=hs.hev x (zF hok (by simp[ho,Op.operands]))
  unfold zNq at h
  split at h
  ·rename_i y hy
   obtain ⟨h1,h2,hK⟩:=h
   obtain ⟨d,i,hd,hi,rfl⟩:=zAe hy
   rw[TI.of_kind] at h1
   refine ⟨.iface t (a.eval x),_,?_,hK,by simp only[RV];exact ⟨trivial,_,rfl,hx⟩⟩
   cases d <;> simp at h1 <;> simp[execOp,ho,Instr.makeInterface,run_underlying hd]
  ·exact h.elim
theorem zB4 {N B:Nat} {ds:List Nat} {a:Act} (hs:St N B Z G FP ds T H a w):∀xs:List Operand,xs.all (zBJ N)=true→RL Z G w (xs.map (hev T)) (xs.map a.eval) []
 | [],_=>by simp[RL]
 | x::xs,h=>by
  simp only[List.all_cons,Bool.and_eq_true] at h
  simp only[List.map_cons,RL]
  exact ⟨_,_,[],[],rfl,rfl,hs.hev x h.1,zB4 hs xs h.2⟩
theorem zUk {o:Oper} {f:Nat} {cs:Array Operand} (hlt:f<4294967296) (ho:o.op=.makeFunc (.func f) #[] cs) (hok:zG N o=true) (h:K (.fn f (cs.toList.map (hev T))) H):HQ P N o T H K :=
 fun B Z G FP ds a w hs=>by
  have hcs:cs.toList.all (zBJ N)=true:=by
   rw[List.all_eq_true]
   intro x hx
   exact zF hok (by simp[ho,Op.operands];simpa using hx)
  refine ⟨.func (.func f) #[] (cs.map a.eval),_,?_,h,?_⟩
  ·simp[execOp,ho,Instr.makeFunc]
  ·simp only[RV]
   exact ⟨_,(zKT hlt _).symm,by rw[Array.toList_map];exact zB4 hs _ hcs⟩
theorem zUj {o:Oper} {f:Nat} {x:Operand} {cs:Array Operand} (ho:o.op=.makeFunc (.func f) #[x] cs) (hok:zG N o=true) (h:K (.fn (f+4294967296) (hev T x::cs.toList.map (hev T))) H):HQ P N o T H K :=
 fun B Z G FP ds a w hs=>by
  have hcs:(x::cs.toList).all (zBJ N)=true:=by
   rw[List.all_eq_true]
   intro y hy
   refine zF hok ?_
   rcases List.mem_cons.1 hy with rfl | hy
   ·simp[ho,Op.operands]
   ·simp[ho,Op.operands];exact .inr (by simpa using hy)
  refine ⟨.func (.func f) #[a.eval x] (cs.map a.eval),_,?_,h,?_⟩
  ·simp[execOp,ho,Instr.makeFunc]
  ·simp only[RV]
   refine ⟨(a.eval x::cs.toList.map a.eval).toArray,?_,by simpa using zB4 hs _ hcs⟩
   rw[zYX (by omega),zTK (by omega),Nat.add_sub_cancel]
   simp
   apply Array.ext';simp
theorem zUi {o:Oper} {x:Operand} (ho:o.op=.nilCheck x) (hok:zG N o=true) (h:zSm H (hev T x) (fun v=>K v H)):HQ P N o T H K :=
 fun B Z G FP ds a w hs=>by
  have hx:=hs.hev x (zF hok (by simp[ho,Op.operands]))
  refine ⟨a.eval x,hev T x,?_,?_,hx⟩
  ·unfold zSm at h
   split at h
   ·rename_i e;rw[e] at hx;simp only[RV] at hx;obtain ⟨_,b,q,hy,_⟩:=hx;simp[execOp,ho,hy]
   ·rename_i e;obtain ⟨b,q,hy,_⟩:=zML hs.inv h.1 hx;simp[execOp,ho,hy]
   ·rename_i e;rw[e] at hx;simp only[RV] at hx;obtain ⟨ys,hy,_⟩:=hx;unfold fnV at hy;split at hy <;> simp[execOp,ho,hy]
   ·rename_i e;rw[e] at hx;simp only[RV] at hx;obtain ⟨_,z,hy,_⟩:=hx;simp[execOp,ho,hy]
   ·exact h.elim
  ·unfold zSm at h
   split at h <;> first | exact h | exact h.2 | exact h.elim
theorem z4A {s:ByteArray} {i:Nat} {b:UInt8} (h:(bl s)[i]?=some b):s.data[i]?=some b∧i<s.size:=by
 unfold bl at h
 rw[Array.getElem?_toList] at h
 exact ⟨h,(Array.getElem?_eq_some_iff.1 h).1⟩
theorem zOW {o:Oper} {t:TypeId} {x i:Operand} (ho:o.op=.index t x i) (hok:zG N o=true) (h:zNp P H t (hev T x) (hev T i) K):HQ P N o T H K :=
 fun B Z G FP ds a w hs=>by
  have hx:=hs.hev x (zF hok (by simp[ho,Op.operands]))
  have hi:=hs.hev i (zF hok (by simp[ho,Op.operands]))
  unfold zNp at h
  split at h
  ·rename_i s k z e1 e2
   rw[e1] at hx;rw[e2] at hi
   obtain ⟨hk,h0,h⟩:=h
   split at h
   ·rename_i b hb
    obtain ⟨hb1,hb2⟩:=z4A hb
    have hlt:z<(s.size:Int):=by omega
    have hb3:=(Array.getElem?_eq_some_iff.1 hb1).2
    refine ⟨.int .u8 (b.toNat:Int),_,?_,h,by simp[RV]⟩
    simp[execOp,ho,RV_v hx,RV_v hi,Instr.index,asIntOf,run_underlying (zAF hk),h0,hlt]
    have:s[z.toNat]=s.data[z.toNat]:=rfl
    rw[this,hb3]
   ·exact h.elim
  ·rename_i cs k z e1 e2
   rw[e1] at hx;rw[e2] at hi
   split at h
   ·rename_i arr e te he
    obtain ⟨hkT,h0,h1,hsz,hK⟩:=h
    obtain ⟨hs1,hs2⟩:=zEv he
    simp only[RV] at hx
    obtain ⟨ys,hy,hl⟩:=hx
    have hlen:=zS _ _ _ hl
    obtain ⟨f1,f2,hf12,_,h2⟩:=zAr _ _ _ (z.toNat*te.size) hl
    obtain ⟨f3,f4,hf34,h3,_⟩:=zAr _ _ _ te.size h2
    have e2:f2=[]:=(List.append_eq_nil_iff.1 hf12.symm).2
    subst e2
    have e3:f3=[]:=(List.append_eq_nil_iff.1 hf34.symm).1
    subst e3
    rw[Array.length_toList] at hlen
    refine ⟨_,_,?_,hK,zNh hkT (by simp;omega) h3⟩
    simp only[execOp,ho,RV_v hi,hy,Instr.index,asIntOf,Sem.run_bind,run_underlying hs1,Result.andThen_ok,Sem.run_pure]
    rw[if_pos ⟨h0,h1⟩]
    simp only[Sem.run_bind,zT hs2,Result.andThen_ok]
    rw[zN4 hs2 hkT (by omega)]
    rfl
   ·exact h.elim
  ·exact h.elim
theorem zUa {b sz:Nat}:∀(rows:List (List HV)) (k l n:Nat),(∀r∈rows,r.length=sz)→RR Z G w rows b k []→RR Z G w ((rows.drop l).take n) b (k+l*sz) []
 | [],k,l,n,_,_=>by simp[RR]
 | r::t,k,0,0,_,_=>by simp[RR]
 | r::t,k,0,n+1,hu,h=>by
  simp only[RR] at h
  obtain ⟨f1,f2,hf,h1,h2⟩:=h
  obtain ⟨rfl,rfl⟩:=List.append_eq_nil_iff.1 hf.symm
  simp only[List.drop_zero,List.take_succ_cons,RR,Nat.zero_mul,Nat.add_zero]
  refine ⟨[],[],rfl,h1,?_⟩
  have:=zUa t (k+r.length) 0 n (fun x hx=>hu x (by simp[hx])) h2
  simpa using this
 | r::t,k,l+1,n,hu,h=>by
  simp only[RR] at h
  obtain ⟨f1,f2,hf,h1,h2⟩:=h
  obtain ⟨rfl,rfl⟩:=List.append_eq_nil_iff.1 hf.symm
  have:=zUa t (k+r.length) l n (fun x hx=>hu x (by simp[hx])) h2
  rw[hu r (by simp)] at this
  simp only[List.drop_succ_cons]
  rw[show k+(l+1)*sz=k+sz+l*sz by rw[Nat.add_mul];omega]
  exact this
theorem HInv.kill (h:HInv Z G FP H w) (id:Nat):HInv Z (G.set id none) (fun j=>if j=id then [] else FP j) (H.set id none) w:=by
 refine ⟨by simp[h.len],fun j hj=>?_,fun j hj=>?_,fun j oj hj=>?_,fun j=>?_,fun i j b hi hj=>?_,h.zlt,fun j b hb=>?_,fun j b hb=>?_,h.glob⟩
 ·by_cases e:id=j
  ·subst e
   have:id<H.length:=by have:=(List.getElem?_eq_some_iff.1 hj).1;simpa using this
   simp[h.len,this]
  ·rw[List.getElem?_set_ne e] at hj⊢;exact h.dead j hj
 ·by_cases e:j=id
  ·simp[e]
  ·simp only[if_neg e];exact h.nofp j (fun x=>by have:=hj x;rwa [List.getElem?_set_ne (Ne.symm e)] at this)
 ·by_cases e:id=j
  ·subst e
   have:id<H.length:=by have:=(List.getElem?_eq_some_iff.1 hj).1;simpa using this
   simp[this] at hj
  ·rw[List.getElem?_set_ne e] at hj⊢
   obtain ⟨gj,hgj,hoj⟩:=h.live j oj hj
   refine ⟨gj,hgj,?_⟩
   simp only[if_neg (Ne.symm e)]
   exact hoj.keep (fun _ _=>rfl) (fun _ h=>h) (GLe.kill id) (fun _ _=>rfl)
 ·by_cases e:j=id
  ·simp[e]
  ·simp only[if_neg e];exact h.nodup j
 ·by_cases e1:i=id
  ·simp[e1] at hi
  ·by_cases e2:j=id
   ·simp[e2] at hj
   ·simp only[if_neg e1] at hi;simp only[if_neg e2] at hj;exact h.disj i j b hi hj
 ·by_cases e:j=id
  ·simp[e] at hb
  ·simp only[if_neg e] at hb;exact h.flt j b hb
 ·by_cases e:j=id
  ·simp[e] at hb
  ·simp only[if_neg e] at hb;exact h.zfp j b hb
theorem zDu {k:IntKind} {z:Int} {y:Nat} {c:BoundsCode} (h0:0≤z) (h1:z≤(y:Int)):(Instr.sliceBound (.int k z) y c).run P w=.ok z.toNat w:=by
 unfold Instr.sliceBound
 simp only[asIntOf,Sem.run_bind,Sem.run_pure,Result.andThen_ok]
 rw[if_pos ⟨h0,h1⟩]
 simp
theorem zBP {N B:Nat} {ds:List Nat} {a:Act} (hs:St N B Z G FP ds T H a w) {lo hi:Option Operand} {isS:Bool} {len cap:Nat} {li hi' : Int} (hlo:zHM T lo=some li) (hhi:zGc T len hi=some hi')
  (hlok:∀x,lo=some x→zBJ N x=true) (hhok:∀x,hi=some x→zBJ N x=true) (h0:0≤li) (h1:li≤hi') (h2:hi'≤(cap:Int)) :
  (Instr.sliceBounds isS len cap (lo.map a.eval) (hi.map a.eval) none).run P w=.ok (li.toNat,hi'.toNat,cap) w:=by
 have ev:∀(x:Operand) (z:Int),zBJ N x=true→(match hev T x with | .v (.int _ z)=>some z | _=>none)=some z→∃k,a.eval x=.int k z:=by
  intro x z hok hm
  have hx:=hs.hev x hok
  split at hm
  ·rename_i k z' e
   rw[e] at hx
   cases hm
   exact ⟨k,RV_v hx⟩
  ·cases hm
 have hh:((hi'.toNat:Nat):Int)=hi':=by omega
 unfold Instr.sliceBounds
 cases hi with
 | none =>
  simp only[zGc,Option.some.injEq] at hhi
  subst hhi
  cases lo with
  | none =>
   simp only[zHM,Option.some.injEq] at hlo
   subst hlo
   simp
  | some x =>
   obtain ⟨k,hk⟩:=ev x li (hlok x rfl) hlo
   simp[hk,zDu h0 h1]
 | some y =>
  obtain ⟨k',hk'⟩:=ev y hi' (hhok y rfl) hhi
  cases lo with
  | none =>
   simp only[zHM,Option.some.injEq] at hlo
   subst hlo
   simp[hk',zDu h1 h2]
  | some x =>
   obtain ⟨k,hk⟩:=ev x li (hlok x rfl) hlo
   have h1' : li≤((hi'.toNat:Nat):Int):=by omega
   have h0' : 0≤hi':=by omega
   simp[hk,hk',zDu h0' h2,zDu h0 h1']
theorem z4W {o:Oper} {t:TypeId} {x:Operand} {lo hi:Option Operand} (ho:o.op=.slice t x lo hi none) (hok:zG N o=true) (h:hcut P T H t (hev T x) lo hi K):HQ P N o T H K :=
 fun B Z G FP ds a w hs=>by
  have hx:=hs.hev x (zF hok (by simp[ho,Op.operands]))
  have hlok:∀y,lo=some y→zBJ N y=true:=fun y hy=>zF hok (by subst hy;simp[ho,Op.operands])
  have hhok:∀y,hi=some y→zBJ N y=true:=fun y hy=>zF hok (by subst hy;simp[ho,Op.operands])
  unfold hcut at h
  split at h
  ·rename_i s e
   rw[e] at hx
   split at h
   ·rename_i l hh hl hhh
    obtain ⟨hk,h0,h1,h2,hK⟩:=h
    refine ⟨.string (s.extract l.toNat hh.toNat),_,?_,hK,by simp[RV]⟩
    simp only[execOp,ho,RV_v hx,Instr.sliceAt,Instr.slice,Option.map_none,Sem.run_bind,run_underlying (zAF hk),Result.andThen_ok]
    simp[zBP (P:=P) (isS:=false) hs hl hhh hlok hhok h0 h1 h2]
   ·exact h.elim
  ·rename_i rows e
   rw[e] at hx
   split at h
   ·rename_i x0 e0 te l hh he hl hhh
    obtain ⟨hu,h0,h1,h2,hK⟩:=h
    obtain ⟨hs1,hs2⟩:=zAT he
    simp only[RV] at hx
    obtain ⟨_,ad,c,hy,hc,hm,hxx⟩:=hx
    have hbd:=zBP (P:=P) (isS:=true) (len:=rows.length) (cap:=c) hs hl hhh hlok hhok h0 h1 (by omega)
    refine ⟨.slice (if c=l.toNat then ad else ad.map (·.add (l.toNat*te.size))) (hh.toNat-l.toNat) (c-l.toNat),_,?_,hK,?_⟩
    ·simp only[execOp,ho,hy,Instr.sliceAt,Instr.slice,Option.map_none,Sem.run_bind,run_underlying hs1,Result.andThen_ok,hbd,zT hs2,Sem.run_pure]
    ·simp only[RV]
     have hll:((rows.drop l.toNat).take (hh.toNat-l.toNat)).length=hh.toNat-l.toNat:=by simp;omega
     refine ⟨trivial,_,_,by rw[hll],by rw[hll];omega,by omega,?_⟩
     rcases hxx with rfl | ⟨b,q,rfl,hz,hun,hrr⟩
     ·left;simp
     ·by_cases hem:hh.toNat-l.toNat=0
      ·left;rw[hem];simp
      ·right
       have hne:c≠l.toNat:=by omega
       have hne' : rows≠[]:=fun e=>by subst e;simp at h2;omega
       have hsz:=zCh hu hne'
       refine ⟨b,q+l.toNat*te.size,by simp[hne,zBX],hz,?_,zUa rows q l.toNat _ hu hrr⟩
       have hall:∀r∈(rows.drop l.toNat).take (hh.toNat-l.toNat),r.length=te.size:=fun r hr=>hu r (List.mem_of_mem_drop (List.mem_of_mem_take hr))
       intro r hr
       rw[hall r hr,zCh hall (by intro e;rw[e] at hll;simp at hll;omega)]
   ·exact h.elim
  ·rename_i id off len e
   rw[e] at hx
   split at h
   ·rename_i x0 e0 te l hh he hl hhh
    split at h
    ·rename_i ob hob
     obtain ⟨hn,hsz,h0,h1,h2,hK⟩:=h
     subst h2
     obtain ⟨hs1,hs2⟩:=zAT he
     obtain ⟨g,hg,hOB,hview⟩:=zEK hs.inv hob hn hx
     have hlt:=hs.inv.lt hob
     unfold View at hview
     split at hview
     ·rename_i hbn
      obtain ⟨hview,hv1,hv2⟩:=hview
      have hl0:len=0:=by
       rcases hOB.at_ with ⟨_,e1,_⟩ | ⟨b,cells,f,e1,_⟩ | ⟨u3,hs3,obj3,f3,e1,e3,_⟩
       ·rw[e1] at hn;simp at hn;omega
       ·rw[hbn] at e1;cases e1
       ·have:=congrArg List.length e3;simp only[List.length_cons,List.length_nil] at this;omega
      subst hl0
      have hll:l=0:=by simp at h1;omega
      subst hll
      have hbd:=zBP (P:=P) (isS:=true) (len:=0) (cap:=0) hs hl hhh hlok hhok (by simp) (by simp) (by simp)
      refine ⟨.slice none 0 0,_,?_,hK,?_⟩
      ·simp only[execOp,ho,hview,Instr.sliceAt,Instr.slice,Option.map_none,Sem.run_bind,run_underlying hs1,Result.andThen_ok,hbd,zT hs2,Sem.run_pure]
       simp
      ·simp only[RV]
       refine ⟨trivial,rfl,hlt,fun g' hg'=>?_⟩
       rw[hg] at hg';cases hg'
       refine ⟨by rw[hOB.n];simp;omega,fun _=>?_⟩
       unfold View
       rw[hbn]
       exact ⟨rfl,by simp[hv1],by simp⟩
     ·rename_i b hb
      obtain ⟨ad,hy,hA⟩:=hview
      have hcap:off+len≤g.cap:=by
       obtain ⟨b',cells,f,e1,e2,e3,e4,e5,_⟩:=hOB.cells_ hb
       ·omega
      have hbd:=zBP (P:=P) (isS:=true) (len:=len) (cap:=g.cap-off) hs hl hhh hlok hhok h0 h1 (by omega)
      refine ⟨.slice (some (if g.cap-off=l.toNat then ad else ad.add (l.toNat*te.size))) (len-l.toNat) (g.cap-off-l.toNat),_,?_,hK,?_⟩
      ·simp only[execOp,ho,hy,Instr.sliceAt,Instr.slice,Option.map_none,Sem.run_bind,run_underlying hs1,Result.andThen_ok,hbd,zT hs2,Sem.run_pure]
       by_cases hc:g.cap-off=l.toNat <;> simp[hc]
      ·simp only[RV]
       refine ⟨trivial,rfl,hlt,fun g' hg'=>?_⟩
       rw[hg] at hg';cases hg'
       refine ⟨by rw[hOB.n];omega,fun _=>?_⟩
       unfold View
       rw[hb]
       refine ⟨_,by rw[Nat.sub_sub],fun hne=>?_⟩
       have e1:ad=⟨b,off*g.sz,none⟩:=hA (by omega)
       have e2:g.sz=te.size:=by rw[hOB.sz,hsz]
       rw[e1,Nat.add_mul,e2]
       split
       ·rename_i hc
        have:l.toNat=0:=by omega
        rw[this];simp
       ·rw[zBX]
    ·exact h.elim
   ·exact h.elim
  ·exact h.elim
end
end Go.Proofs.YtoknohandclcbaaGreat
namespace Go.Proofs.YtoknohandclcbaaGreat
open Go.RowKit
def zA (x:TI):Option (List HV) :=
 match x.zero with
 | some z=>if (z.cells.toList.all fun y=>y.oneCell')=true∧z.cells.size=x.size then some (z.cells.toList.map .v) else none
 | none=>none
def z2G (H:Heap) (e:TypeId) (sz:Nat) (row:List HV) (K:KT):Prop:=K (.pt H.length 1 0 0) (H++[some ⟨e,sz,[row]⟩])
def zJv (H:Heap) (e:TypeId) (sz:Nat) (rows:List (List HV)) (K:KT):Prop:=K (.hd H.length 0 rows.length) (H++[some ⟨e,sz,rows⟩])
def zSy (P:Program) (H:Heap) (t:TypeId) (K:KT):Prop :=
 match ti P t with
 | some x=>(match zA x with | some cs=>z2G H t x.size cs K | none=>False)
 | none=>False
def hbox (P:Program) (H:Heap) (t:TypeId) (v:HV) (K:KT):Prop :=
 (zQ v).all c1=true∧z2G H t (zQ v).length (zQ v) K
def zIb (place:Nat→Option (Nat×Nat)):List HV→List (Nat×HV)→Option (List HV)
 | cs,[]=>some cs
 | cs,(i,x)::rest =>
  match place i with
  | some (off,n)=>if (zQ x).length=n∧off+n≤cs.length∧(zQ x).all c1=true then zIb place (cs.take off++zQ x++cs.drop (off+n)) rest else none
  | none=>none
def zGF (P:Program) (x:TI) (i:Nat):Option (Nat×Nat) :=
 if x.kind=1 then (match x.flds[i]? with
  | some (off,ft)=>(match ti P ft with | some y=>some (off,y.size) | none=>none)
  | none=>none)
 else (match ti P x.elem with | some y=>some (i*y.size,y.size) | none=>none)
def zNt (P:Program) (T:Nat→HV) (t:TypeId) (parts:List (Nat×Operand)) (K:HV→Prop):Prop :=
 match ti P t with
 | some x=>x.agg=true∧(x.kind=1→∀f∈x.flds,(ti P f.2).isSome=true)∧(x.kind=2→(ti P x.elem).isSome=true)∧
  (match zA x with
  | some cs=>(match zIb (zGF P x) cs (parts.map fun p=>(p.1,hev T p.2)) with
   | some cs'=>K (.ag cs')
   | none=>False)
  | none=>False)
 | none=>False
def zCZ:Nat→List (Nat×Operand)→Bool
 | _,[]=>true
 | k,(i,_)::rest=>i == k && zCZ (k+1) rest
def zD9 (P:Program) (T:Nat→HV) (H:Heap) (t:TypeId) (len:Nat) (parts:List (Nat×Operand)) (K:KT):Prop :=
 match zL P t 3 with
 | some (_,e,te) =>
  len=parts.length∧zCZ 0 parts=true∧te.size≠0∧len*te.size≤16777216∧(zA te).isSome=true∧
  (∀p∈parts,(zQ (hev T p.2)).length=te.size∧(zQ (hev T p.2)).all c1=true)∧
  zJv H e te.size (parts.map fun p=>zQ (hev T p.2)) K
 | none=>False
def zEo (P:Program) (H:Heap) (t:TypeId) (l c:HV) (K:KT):Prop :=
 match zL P t 3,l,c with
 | some (_,e,te),.v (.int _ n),.v (.int _ m) =>
  0≤n∧n≤m∧(te.bytes:Int)*m≤281474976710656∧m≤9223372036854775807∧
  (match zA te with
  | some cs=>zJv H e te.size (List.replicate n.toNat cs) K
  | none=>False)
 | _,_,_=>False
section
variable {P:Program} {N:Nat} {T:Nat→HV} {H:Heap} {K:KT} {Z:Nat→Prop} {G:List (Option OG)} {FP:Nat→List Nat} {w:World}
theorem lay (hi:HInv Z G FP H w) {w1:World} (hw1:w1=w∨w1=w.drew) {cells:Array Value} {e:TypeId} {sz cap:Nat} {rows:List (List HV)}
  (hcap:cells.size=cap*sz) (hlen:rows.length≤cap) (hmax:cap≤maxLen) (hrl:∀r∈rows,r.length=sz)
  (hv:RL Z G w rows.flatten (cells.toList.take rows.flatten.length) []) (h1:∀y∈cells.toList.take rows.flatten.length,y.oneCell'=true) :
  ∃FP',HInv Z (G++[some ⟨some w.heap.size,e,sz,rows.length,cap⟩]) FP' (H++[some ⟨e,sz,rows⟩]) (w1.alloc (.cells cells e))∧
   Evo Z FP w Z FP' (w1.alloc (.cells cells e))∧
   RV Z (G++[some ⟨some w.heap.size,e,sz,rows.length,cap⟩]) (w1.alloc (.cells cells e)) (.hd H.length 0 rows.length) (.slice (some ⟨w.heap.size,0,none⟩) rows.length cap) []∧
   (rows.length=1→RV Z (G++[some ⟨some w.heap.size,e,sz,rows.length,cap⟩]) (w1.alloc (.cells cells e)) (.pt H.length 1 0 0) (.pointer (some ⟨w.heap.size,0,none⟩)) []):=by
 have hheap:w1.heap=w.heap:=by rcases hw1 with rfl | rfl <;> rfl
 have hsz:w1.heap.size=w.heap.size:=by rw[hheap]
 have hnew:(w1.alloc (.cells cells e)).heap[w.heap.size]?=some (.cells cells e (0,0)):=by rw[←hsz];exact heap_alloc_new w1 _
 have hold:∀b,b<w.heap.size→(w1.alloc (.cells cells e)).heap[b]?=w.heap[b]?:=fun b hb=>by rw[heap_alloc_old w1 _ (by omega),hheap]
 have hall:(w1.alloc (.cells cells e)).heap.size=w.heap.size+1:=by simp[hsz]
 have hlt:∀id b,b∈FP id→b<w.heap.size:=hi.flt
 have hob:OB Z (G++[some ⟨some w.heap.size,e,sz,rows.length,cap⟩]) (w1.alloc (.cells cells e)) ⟨e,sz,rows⟩ ⟨some w.heap.size,e,sz,rows.length,cap⟩ [w.heap.size]:=by
  refine ⟨rfl,rfl,rfl,hrl,.inr (.inl ⟨w.heap.size,cells,[],rfl,rfl,hnew,hcap,hlen,hmax,?_⟩)⟩
  refine (zCV hnew rows 0 [] (Nat.zero_le _)).2 ⟨?_,?_,by simpa using h1⟩
  ·rw[zAq rows hrl,hcap,Nat.zero_add];exact Nat.mul_le_mul_right _ hlen
  ·simp only[List.drop_zero]
   exact RL.keep (fun b hb=>hold b (hi.zlt b hb)) (fun _ h=>h) (GLe.more _) _ _ _ (by simp) hv
 refine ⟨_,hi.new (by omega) hold hob (by simp) (fun b hb=>?_),zG7 (hi.nofp _ (by simp)) ?_ ?_ ?_ (by omega) hold (fun b hb=>by simp at hb;omega),?_,?_⟩
 ·simp at hb;subst hb
  exact ⟨fun hz=>by have:=hi.zlt _ hz;omega,by omega,fun j hj=>by have:=hlt j _ hj;omega⟩
 ·rcases hw1 with rfl | rfl <;> rfl
 ·rcases hw1 with rfl | rfl <;> rfl
 ·rcases hw1 with rfl | rfl <;> rfl
 ·simp only[RV]
  rw[←hi.len]
  refine ⟨trivial,rfl,by simp,fun g hg=>?_⟩
  simp at hg;subst hg
  refine ⟨by simp,fun _=>?_⟩
  unfold View
  exact ⟨⟨w.heap.size,0,none⟩,by simp,fun _=>by simp⟩
 ·intro h1'
  simp only[RV]
  rw[←hi.len]
  refine ⟨trivial,rfl,by simp,fun g hg=>?_⟩
  simp at hg;subst hg
  exact ⟨by simp[h1'],fun _=>⟨w.heap.size,rfl,by simp⟩⟩
theorem zOV {o:Oper} (h:∀B Z G FP ds a w,St N B Z G FP ds T H a w→∃w1 cells e sz cap rows x v,(w1=w∨w1=w.drew)∧(execOp a.eval o).run P w=.ok (.value v) (w1.alloc (.cells cells e))∧
   cells.size=cap*sz∧rows.length≤cap∧cap≤maxLen∧(∀r∈rows,r.length=sz)∧RL Z G w rows.flatten (cells.toList.take rows.flatten.length) []∧(∀y∈cells.toList.take rows.flatten.length,y.oneCell'=true)∧
   ((x=.hd H.length 0 rows.length∧v=.slice (some ⟨w.heap.size,0,none⟩) rows.length cap)∨(rows.length=1∧x=.pt H.length 1 0 0∧v=.pointer (some ⟨w.heap.size,0,none⟩)))∧K x (H++[some ⟨e,sz,rows⟩])) :
  HR P N o T H K:=by
 intro B Z G FP ds a w hs
 obtain ⟨w1,cells,e,sz,cap,rows,x,v,hw1,hrun,h1,h2,h3,h4,h5,h6,h7,hK⟩:=h B Z G FP ds a w hs
 obtain ⟨FP',i1,i2,i3,i4⟩:=lay hs.inv hw1 h1 h2 h3 h4 h5 h6
 refine ⟨.value v,v,_,x,_,Z,_,FP',hrun,.inl rfl,hK,?_,i1,GLe.more _,i2⟩
 rcases h7 with ⟨rfl,rfl⟩ | ⟨hl,rfl,rfl⟩
 ·exact i3
 ·exact i4 hl
theorem zAs {x:TI} {cs:List HV} (h:zA x=some cs):∃z,x.zero=some z∧cs=z.cells.toList.map .v∧(∀y∈z.cells.toList,y.oneCell'=true)∧z.cells.size=x.size:=by
 unfold zA at h
 split at h
 ·rename_i z hz
  split at h
  ·rename_i hc
   cases h
   exact ⟨z,hz,rfl,fun y hy=>List.all_eq_true.1 hc.1 y hy,hc.2⟩
  ·cases h
 ·cases h
theorem zYF {o:Oper} {t:TypeId} (ho:o.op=.alloc t) (h:zSy P H t K):HR P N o T H K :=
 zOV fun B Z G FP ds a w hs=>by
  unfold zSy at h
  split at h
  ·rename_i x hx
   split at h
   ·rename_i cs hcs
    obtain ⟨z,hz,rfl,h1,hsz⟩:=zAs hcs
    refine ⟨w,z.cells,t,x.size,1,[z.cells.toList.map .v],_,_,.inl rfl,?_,by rw[hsz,Nat.one_mul],by simp,by simp[maxLen],by simp[hsz],?_,?_,.inr ⟨rfl,rfl,rfl⟩,h⟩
    ·simp only[execOp,ho,Instr.alloc,Sem.run_bind,zAi hx hz,Result.andThen_ok,newVar,newRow]
     simp
    ·simp only[List.flatten_cons,List.flatten_nil,List.append_nil,List.length_map]
     rw[List.take_of_length_le (Nat.le_refl _)]
     exact zQh Z G w _
    ·intro y hy
     exact h1 y (List.mem_of_mem_take hy)
   ·exact h.elim
  ·exact h.elim
theorem z4X {o:Oper} {t:TypeId} {x:Operand} (ho:o.op=.box t x) (hok:zG N o=true) (h:hbox P H t (hev T x) K):HR P N o T H K :=
 zOV fun B Z G FP ds a w hs=>by
  obtain ⟨hc,hK⟩:=h
  have hx:=hs.hev x (zF hok (by simp[ho,Op.operands]))
  obtain ⟨h1,h2⟩:=zBj hc hx
  have hl:=zS _ _ _ h1
  refine ⟨w,(a.eval x).cells,t,(zQ (hev T x)).length,1,[zQ (hev T x)],_,_,.inl rfl,?_,by rw[←hl];simp,by simp,by simp[maxLen],by simp,?_,?_,.inr ⟨rfl,rfl,rfl⟩,hK⟩
  ·simp only[execOp,ho,Instr.box,Sem.run_bind,Result.andThen_ok,newVar,newRow]
   simp
  ·simp only[List.flatten_cons,List.flatten_nil,List.append_nil]
   rw[List.take_of_length_le (by omega)]
   exact h1
  ·intro y hy
   exact h2 y (List.mem_of_mem_take hy)
theorem zTJ (v:Value) (off:Nat) (cells:Array Value) (h:off+v.cells.size≤cells.size) :
  (v.cells.zipIdx.foldl (fun cs (c,j)=>cs.setIfInBounds (off+j) c) cells).toList=cells.toList.take off++v.cells.toList++cells.toList.drop (off+v.cells.size):=by
 obtain ⟨h1,h2⟩:=Great.foldl_set off v.cells.toList 0 cells
 rw[←Array.foldl_toList,Array.toList_zipIdx]
 apply List.ext_getElem?
 intro k
 rw[Array.getElem?_toList,h2 k]
 simp only[Nat.add_zero,Array.length_toList]
 rw[List.append_assoc,List.getElem?_append,List.getElem?_append]
 simp only[List.length_take,Array.length_toList,List.getElem?_take,List.getElem?_drop,Array.getElem?_toList]
 have hm:min off cells.size=off:=by omega
 rw[hm]
 by_cases h3:k<off
 ·rw[if_neg (by omega),if_pos h3,if_pos h3]
 ·rw[if_neg h3]
  by_cases h4:k-off<v.cells.size
  ·rw[if_pos (by omega),if_pos h4]
  ·rw[if_neg (by omega),if_neg h4]
   congr 1;omega
def PR (Z:Nat→Prop) (G:List (Option OG)) (w:World):List (Nat×HV)→List (Nat×Value)→Prop
 | [],[]=>True
 | x::r,y::s=>x.1=y.1∧RV Z G w x.2 y.2 []∧PR Z G w r s
 | _,_=>False
theorem zNw {pl:Nat→Option (Nat×Nat)}:∀(hp:List (Nat×HV)) (vp:List (Nat×Value)) (cs:List HV) (cells:Array Value) (cs' : List HV),RL Z G w cs cells.toList []→
  PR Z G w hp vp→zIb pl cs hp=some cs'→∃r,Instr.fill pl cells vp=some r∧RL Z G w cs' r.toList []
 | [],[],cs,cells,cs',hcs,_,h=>by simp only[zIb,Option.some.injEq] at h;subst h;exact ⟨cells,rfl,hcs⟩
 | (i,x)::hp,(j,y)::vp,cs,cells,cs',hcs,hf,h=>by
  ·obtain ⟨hij,hxy,hrest⟩:=hf
   simp only at hij hxy
   subst hij
   simp only[zIb] at h
   split at h
   ·rename_i off n hpl
    split at h
    ·rename_i hc
     obtain ⟨h1,h2,h3⟩:=hc
     obtain ⟨k1,k2⟩:=zBj h3 hxy
     have hl1:=zS _ _ _ k1
     have hl2:=zS _ _ _ hcs
     have hys:y.cells.size=n:=by rw[←h1,←hl1];simp
     rw[Array.length_toList] at hl2
     have hfit:off+y.cells.size≤cells.size:=by omega
     obtain ⟨f1,f2,hf12,hA,hB⟩:=zAr _ _ _ off hcs
     obtain ⟨rfl,rfl⟩:=List.append_eq_nil_iff.1 hf12.symm
     obtain ⟨f1,f2,hf12,_,hC⟩:=zAr _ _ _ (off+n) hcs
     obtain ⟨rfl,rfl⟩:=List.append_eq_nil_iff.1 hf12.symm
     have hnew:RL Z G w (cs.take off++zQ x++cs.drop (off+n)) (y.cells.zipIdx.foldl (fun cs (c,j)=>cs.setIfInBounds (off+j) c) cells).toList []:=by
      rw[zTJ y off cells hfit,hys]
      exact (zZ _ _ _ _).2 ⟨_,_,[],[],rfl,rfl,(zZ _ _ _ _).2 ⟨_,_,[],[],rfl,rfl,hA,k1⟩,hC⟩
     obtain ⟨r,hr,hrl⟩:=zNw hp vp _ _ cs' hnew hrest h
     refine ⟨r,?_,hrl⟩
     unfold Instr.fill
     simp only[hpl]
     rw[if_neg (by simp[hys];omega)]
     exact hr
    ·cases h
   ·cases h
 | [],_::_,_,_,_,_,h,_=>h.elim
 | _::_,[],_,_,_,_,h,_=>h.elim
theorem zJs {N B:Nat} {ds:List Nat} {a:Act} (hs:St N B Z G FP ds T H a w):∀(ps:List (Nat×Operand)),(∀p∈ps,zBJ N p.2=true)→
  PR Z G w (ps.map fun p=>(p.1,hev T p.2)) (ps.map fun p=>(p.1,a.eval p.2))
 | [],_=>trivial
 | p::ps,h=>⟨rfl,hs.hev p.2 (h p (by simp)),zJs hs ps (fun q hq=>h q (by simp[hq]))⟩
theorem zOu {fs:Array Field} (h:∀f∈fs.toList,(ti P f.type).isSome=true):(fs.mapM (m:=Sem) fun (f:Field)=>do pure (f.offset,←sizeOf f.type)).run P w=.ok (fs.map fun (f:Field)=>(f.offset,((ti P f.type).map (·.size)).getD 0)) w:=by
 rw[Array.mapM_eq_mapM_toList]
 have:∀(l:List Field),(∀f∈l,(ti P f.type).isSome=true)→(l.mapM (m:=Sem) fun (f:Field)=>do pure (f.offset,←sizeOf f.type)).run P w=.ok (l.map fun (f:Field)=>(f.offset,((ti P f.type).map (·.size)).getD 0)) w:=by
  intro l
  induction l with
  | nil=>intro _;simp
  | cons f l ih =>
   intro hl
   obtain ⟨x,hx⟩:=Option.isSome_iff_exists.1 (hl f (by simp))
   rw[List.mapM_cons]
   simp only[Sem.run_bind,zT hx,Result.andThen_ok,Sem.run_pure,ih (fun g hg=>hl g (by simp[hg])),List.map_cons,hx,Option.map_some,Option.getD_some]
 simp only[map_eq_pure_bind,Sem.run_bind,this fs.toList h,Result.andThen_ok,Sem.run_pure]
 congr 1
 apply Array.ext'
 simp
theorem zO0 {o:Oper} {t:TypeId} {parts:Array (Nat×Operand)} (ho:o.op=.build t parts) (hok:zG N o=true) (h:zNt P T t parts.toList (fun v=>K v H)):HQ P N o T H K :=
 fun B Z G FP ds a w hs=>by
  have hpok:∀p∈parts.toList,zBJ N p.2=true:=fun p hp=>zF hok (by simp only[ho,Op.operands];simp;exact ⟨p.1,by simpa using hp⟩)
  unfold zNt at h
  split at h
  ·rename_i x hx
   obtain ⟨hagg,hk1,hk2,h⟩:=h
   split at h
   ·rename_i cs hcs
    split at h
    ·rename_i cs' hcs'
     obtain ⟨z,hz,rfl,h1,hsz⟩:=zAs hcs
     obtain ⟨d,inf,hd,hinf,rfl⟩:=zAe hx
     have hpr:=zJs hs parts.toList hpok
     obtain ⟨r,hr,hrl⟩:=zNw _ _ _ z.cells _ (zQh Z G w z.cells.toList) hpr hcs'
     have hpa:(parts.map fun (p:Nat×Operand)=>(p.1,a.eval p.2)).toList=parts.toList.map fun p=>(p.1,a.eval p.2):=by simp
     refine ⟨.agg r,_,?_,h,by simp only[RV];exact ⟨r,rfl,hrl⟩⟩
     rw[TI.of_agg] at hagg
     cases d <;> simp at hagg
     ·rename_i n e
      obtain ⟨y,hy⟩:=Option.isSome_iff_exists.1 (hk2 rfl)
      have hy' : ti P e=some y:=hy
      have hpl:(fun i=>some (i*y.size,y.size))=zGF P (TI.of (.array n e) inf):=by
       funext i
       simp[zGF,TI.of,hy']
      simp only[execOp,ho,Instr.build,Sem.run_bind,zAi hx hz,Result.andThen_ok,run_underlying hd,zT hy',hpl,hpa,hr,Sem.run_pure]
     ·rename_i fs
      have hk1':=hk1 rfl
      have hfs:∀f∈fs.toList,(ti P f.type).isSome=true:=fun f hf=>hk1' (f.offset,f.type) (by simp[TI.of];exact ⟨f,by simpa using hf,rfl,rfl⟩)
      have hpl:(fun i=>(fs.map fun (f:Field)=>(f.offset,((ti P f.type).map (·.size)).getD 0))[i]?)=zGF P (TI.of (.struct fs) inf):=by
       funext i
       simp only[zGF,TI.of,if_true,List.getElem?_map,Array.getElem?_toList,Array.getElem?_map]
       cases hf:fs[i]? with
       | none=>simp
       | some f =>
        obtain ⟨y,hy⟩:=Option.isSome_iff_exists.1 (hfs f (Array.mem_toList_iff.2 (Array.mem_of_getElem? hf)))
        simp[hy]
      simp only[execOp,ho,Instr.build,Sem.run_bind,zAi hx hz,Result.andThen_ok,run_underlying hd,zOu hfs,hpl,hpa,hr,Sem.run_pure]
    ·exact h.elim
   ·exact h.elim
  ·exact h.elim
theorem zJ7 (f:Operand→Value):∀(ps:List (Nat×Operand)) (k:Nat),zCZ k ps=true→ps.map (fun p=>(p.1,f p.2))=((ps.map fun p=>f p.2).zipIdx k).map fun x=>(x.2,x.1)
 | [],k,_=>rfl
 | (i,x)::ps,k,h=>by
  simp only[zCZ,Bool.and_eq_true,beq_iff_eq] at h
  obtain ⟨rfl,h2⟩:=h
  simp only[List.map_cons,List.zipIdx_cons]
  rw[zJ7 f ps (i+1) h2]
theorem zHu {N B:Nat} {ds:List Nat} {a:Act} (hs:St N B Z G FP ds T H a w):∀(ps:List (Nat×Operand)),(∀p∈ps,zBJ N p.2=true)→(∀p∈ps,(zQ (hev T p.2)).all c1=true)→
  RL Z G w (ps.map fun p=>zQ (hev T p.2)).flatten ((ps.map fun p=>a.eval p.2).flatMap fun v=>v.cells.toList) []∧∀y∈(ps.map fun p=>a.eval p.2).flatMap (fun v=>v.cells.toList),y.oneCell'=true
 | [],_,_=>by simp[RL]
 | p::ps,h,hc=>by
  obtain ⟨k1,k2⟩:=zHu hs ps (fun q hq=>h q (by simp[hq])) (fun q hq=>hc q (by simp[hq]))
  obtain ⟨k3,k4⟩:=zBj (hc p (by simp)) (hs.hev p.2 (h p (by simp)))
  simp only[List.map_cons,List.flatten_cons,List.flatMap_cons]
  refine ⟨(zZ _ _ _ _).2 ⟨_,_,[],[],rfl,rfl,k3,k1⟩,fun y hy=>?_⟩
  rcases List.mem_append.1 hy with hy | hy
  ·exact k4 y hy
  ·exact k2 y hy
theorem zJC {o:Oper} {t:TypeId} {len:Nat} {parts:Array (Nat×Operand)} (ho:o.op=.buildSlice t len parts) (hok:zG N o=true) (h:zD9 P T H t len parts.toList K):HR P N o T H K :=
 zOV fun B Z G FP ds a w hs=>by
  have hpok:∀p∈parts.toList,zBJ N p.2=true:=fun p hp=>zF hok (by simp only[ho,Op.operands];simp;exact ⟨p.1,by simpa using hp⟩)
  unfold zD9 at h
  split at h
  ·rename_i x e te he
   obtain ⟨hlen,hseq,hsz,hsmall,hzc,hp,hK⟩:=h
   unfold zJv at hK
   obtain ⟨hs1,hs2⟩:=zAT he
   obtain ⟨cs,hcs⟩:=Option.isSome_iff_exists.1 hzc
   obtain ⟨z,hz,rfl,h1,hzs⟩:=zAs hcs
   obtain ⟨hA,hB⟩:=zHu hs parts.toList hpok (fun p hq=>(hp p hq).2)
   have hrl:∀r∈parts.toList.map (fun p=>zQ (hev T p.2)),r.length=te.size:=by
    intro r hr
    obtain ⟨p,hp1,rfl⟩:=List.mem_map.1 hr
    exact (hp p hp1).1
   have hpa:(parts.map fun (p:Nat×Operand)=>(p.1,a.eval p.2)).toList=parts.toList.map fun p=>(p.1,a.eval p.2):=by simp
   have hvs:∀v∈parts.toList.map (fun p=>a.eval p.2),v.cells.size=te.size:=by
    intro v hv
    obtain ⟨p,hp1,rfl⟩:=List.mem_map.1 hv
    have:=zS _ _ _ (zBj (hp p hp1).2 (hs.hev p.2 (hpok p hp1))).1
    rw[(hp p hp1).1] at this
    simpa using this
   have hAl:=zS _ _ _ hA
   have hfl:=zAq _ hrl
   rw[List.length_map] at hfl
   have hlen' : parts.size=len:=by rw[hlen];simp
   refine ⟨w,((parts.toList.map fun p=>a.eval p.2).flatMap fun v=>v.cells.toList).toArray,e,te.size,len,parts.toList.map fun p=>zQ (hev T p.2),_,_,.inl rfl,?_,?_,by simp[hlen'],?_,hrl,?_,?_,.inl ⟨rfl,rfl⟩,hK⟩
   ·have zIb:Instr.fill (fun i=>some (i*te.size,te.size)) ((Array.range (len*te.size)).map (z.cells[·% z.cells.size]!)) (parts.toList.map fun p=>(p.1,a.eval p.2))=some ((parts.toList.map fun p=>a.eval p.2).flatMap fun v=>v.cells.toList).toArray:=by
     rw[zJ7 a.eval _ 0 hseq]
     exact Great.fill_whole (by omega) _ _ hvs (by simp[hlen'])
    have hrun:(Instr.buildSlice t len (parts.map fun (i,x)=>(i,a.eval x))).run P w=.ok (.slice (some ⟨w.heap.size,0,none⟩) len len) (w.alloc (.cells ((parts.toList.map fun p=>a.eval p.2).flatMap fun v=>v.cells.toList).toArray e)):=by
     have hns:¬len*te.size > 2 ^ 24:=by omega
     by_cases h0:len*te.size=0
     ·have hl0:len=0:=by rcases Nat.mul_eq_zero.1 h0 with h | h <;> omega
      subst hl0
      have:parts.toList=[]:=List.eq_nil_of_length_eq_zero hlen.symm
      have hp0:parts = #[]:=Array.toList_eq_nil_iff.1 this
      subst hp0
      simp[Instr.buildSlice,run_underlying hs1,zT hs2,Instr.fill,newRow,Array.range_zero']
     ·unfold Instr.buildSlice
      simp only[Sem.run_bind,run_underlying hs1,Result.andThen_ok,zT hs2,if_neg hns,if_neg h0,zAi hs2 hz,Sem.run_pure,hpa,zIb]
      simp[newRow]
    simp only[execOp,ho,Sem.run_bind,hrun,Result.andThen_ok,Sem.run_pure,List.length_map,Array.length_toList,hlen']
   ·simp only[List.size_toArray,hAl,hfl,hlen]
   ·simp only[maxLen]
    have:len≤len*te.size:=Nat.le_mul_of_pos_right _ (by omega)
    omega
   ·rw[List.take_of_length_le (by rw[←hAl];simp)]
    exact hA
   ·intro y hy
    exact hB y (List.mem_of_mem_take hy)
  ·exact h.elim
theorem zUc:∀(l:List HV) (xs:List Value),l=xs.map .v→RL Z G w l xs []:=fun l xs h=>h▸zQh Z G w xs
theorem zHa (z:Array Value) (n:Nat):(madeCells z (n*z.size)).toList=(List.replicate n z.toList).flatten:=by
 apply List.ext_getElem?
 intro k
 unfold madeCells
 rw[Array.toList_map,List.getElem?_map]
 have hr:∀n,(List.replicate n z.toList).flatten.length=n*z.size:=fun n=>by simp
 by_cases hk:k<n*z.size
 ·have hp:0<z.size:=Nat.pos_of_ne_zero (fun e=>by rw[e] at hk;simp at hk)
  have hm:k % z.size<z.size:=Nat.mod_lt _ hp
  have e1:(List.replicate n z.toList).flatten[k]?=z.toList[k % z.size]?:=by
   clear hr
   induction n generalizing k with
   | zero=>simp at hk
   | succ n ih =>
    rw[List.replicate_succ,List.flatten_cons]
    by_cases h1:k<z.size
    ·rw[List.getElem?_append_left (by simpa using h1),Nat.mod_eq_of_lt h1]
    ·rw[List.getElem?_append_right (by simpa using Nat.le_of_not_lt h1)]
     have:k-z.toList.length<n*z.size:=by rw[Nat.add_mul] at hk;simp;omega
     rw[ih _ this (Nat.mod_lt _ hp)]
     congr 1
     have h2:=Nat.sub_add_cancel (Nat.le_of_not_lt h1)
     simp only[Array.length_toList]
     conv=>rhs;rw[←h2]
     rw[Nat.add_mod_right]
  rw[e1]
  simp[hk,hm]
 ·have e2:(List.replicate n z.toList).flatten[k]?=none:=List.getElem?_eq_none (by rw[hr];omega)
  rw[e2]
  simp
  omega
theorem zLR {o:Oper} {t:TypeId} {l c:Operand} (ho:o.op=.makeSlice t l c) (hok:zG N o=true) (h:zEo P H t (hev T l) (hev T c) K):HR P N o T H K :=
 zOV fun B Z G FP ds a w hs=>by
  have hl:=hs.hev l (zF hok (by simp[ho,Op.operands]))
  have hc:=hs.hev c (zF hok (by simp[ho,Op.operands]))
  unfold zEo at h
  split at h
  ·rename_i x e te k1 n k2 m he el ec
   rw[el] at hl;rw[ec] at hc
   obtain ⟨h0,h1,hb,h63,h⟩:=h
   obtain ⟨hs1,hs2⟩:=zAT he
   split at h
   ·rename_i cs hcs
    obtain ⟨z,hz,rfl,hz1,hzs⟩:=zAs hcs
    obtain ⟨d,inf,hd,hinf,rfl⟩:=zAe hs2
    rw[TI.of_bytes] at hb
    rw[TI.of_zero] at hz
    rw[TI.of_size] at hzs
    have hrun:=run_make (P:=P) w t e inf z hs1 hinf hz k1 k2 n m h0 h1 hb h63
    have hcells:(madeCells z.cells (m.toNat*inf.size)).toList=(List.replicate m.toNat z.cells.toList).flatten:=by rw[←hzs];exact zHa _ _
    have hfl:(List.replicate n.toNat (z.cells.toList.map HV.v)).flatten.length=n.toNat*inf.size:=by simp[hzs]
    have htake:(madeCells z.cells (m.toNat*inf.size)).toList.take (n.toNat*inf.size)=(List.replicate n.toNat z.cells.toList).flatten:=by
     rw[hcells]
     have:m.toNat=n.toNat+(m.toNat-n.toNat):=by omega
     rw[this,←List.replicate_append_replicate,List.flatten_append]
     rw[List.take_left' (by simp[hzs])]
    refine ⟨w,madeCells z.cells (m.toNat*inf.size),e,inf.size,m.toNat,List.replicate n.toNat (z.cells.toList.map .v),_,_,.inl rfl,?_,by simp[madeCells],by simp;omega,by simp[maxLen];omega,?_,?_,?_,.inl ⟨rfl,rfl⟩,?_⟩
    ·simp only[execOp,ho,RV_v hl,RV_v hc,Sem.run_bind,hrun,Result.andThen_ok,Sem.run_pure,List.length_replicate]
    ·intro r hr
     rw[List.eq_of_mem_replicate hr]
     simp[hzs]
    ·rw[hfl,htake]
     refine zUc _ _ ?_
     rw[List.map_flatten,List.map_replicate]
    ·rw[hfl,htake]
     intro y hy
     obtain ⟨l',hl',hy'⟩:=List.mem_flatten.1 hy
     rw[List.eq_of_mem_replicate hl'] at hy'
     exact hz1 y hy'
    ·rw[TI.of_size] at h;exact h
   ·exact h.elim
  ·exact h.elim
end
end Go.Proofs.YtoknohandclcbaaGreat
