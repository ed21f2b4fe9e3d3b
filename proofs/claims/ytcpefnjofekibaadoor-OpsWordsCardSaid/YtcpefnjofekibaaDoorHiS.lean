/- Part S of the engine: the rows by which the run is reckoned. -/
import Derived.Test.YtcpefnjofekibaaDoorHiZ
namespace Go.Proofs.YtcpefnjofekibaaDoor
open Go.RowKit
set_option linter.unusedVariables false
set_option linter.unusedSimpArgs false

section
variable {P : Program} {N L : Nat} {Q : Exit → KS} {n : Nat} {r : List Item} {T : Nat → HV} {H : Heap} {k : List Item → KS} {all l : List Oper} {d : Option Nat}

theorem ex_nil : ex P N L Q (n + 1) [] T H = Q .normal T H := rfl
theorem ex_endB {b : Nat} : ex P N L Q (n + 1) (.endB b :: r) T H = ex P N L Q n r T H := rfl
theorem ex_opsnil : ex P N L Q (n + 1) (.ops all [] :: r) T H = ex P N L Q n r T H := rfl
theorem ex_op {op : Op} {ty : TypeId} {pos : String} {af : Array Edge} : ex P N L Q (n + 1) (.ops all (⟨d, op, ty, pos, af, none⟩ :: l) :: r) T H = exO (ex P N L Q n) P all d op l r T H := rfl
theorem ex_opg {op : Op} {ty : TypeId} {pos : String} {af : Array Edge} {j : Nat} {b : Bool} : ex P N L Q (n + 1) (.ops all (⟨d, op, ty, pos, af, some (j, b)⟩ :: l) :: r) T H = exB (ex P N L Q n) P (dstAt all j) b all d op l r T H := rfl
theorem ex_skip : ex P N L Q (n + 1) (.code .skip :: r) T H = ex P N L Q n r T H := rfl
theorem ex_label {b : Nat} : ex P N L Q (n + 1) (.code (.label b) :: r) T H = ex P N L Q n r T H := rfl
theorem ex_seq {x y : Code} : ex P N L Q (n + 1) (.code (.seq x y) :: r) T H = ex P N L Q n (.code x :: .code y :: r) T H := rfl
theorem ex_region {b : Nat} : ex P N L Q (n + 1) (.code (.region b (List.toArray l) false) :: r) T H = ex P N L Q n (.ops l l :: r) T H := rfl
theorem ex_cond {c : Operand} {x y : Code} : ex P N L Q (n + 1) (.code (.cond c x y) :: r) T H = exC2 (ex P N L Q n) (hev T c) x y r T H := rfl
theorem ex_block {b : Nat} {c : Code} : ex P N L Q (n + 1) (.code (.block b c) :: r) T H = ex P N L Q n (.code c :: .endB b :: r) T H := rfl
theorem ex_exit {b : Nat} : ex P N L Q (n + 1) (.code (.exit b) :: r) T H = Kx (ex P N L Q n) Q r (.exit b) T H := rfl
theorem ex_goto {b : Nat} : ex P N L Q (n + 1) (.code (.goto b) :: r) T H = Q (.goto b) T H := rfl
theorem ex_ret : ex P N L Q (n + 1) (.code .ret :: r) T H = Q .ret T H := rfl
theorem ex_loop {c : Code} : ex P N L Q (n + 1) (.code (.loop c) :: r) T H = HW P N L (.loop c) (Kx (ex P N L Q n) Q r) T H := rfl
theorem ex_scope {c : Code} : ex P N L Q (n + 1) (.code (.scope c) :: r) T H = HW P N L (.scope c) (Kx (ex P N L Q n) Q r) T H := rfl
theorem ex_range {f : Operand} {ps : Array Nat} {c c' : Code} : ex P N L Q (n + 1) (.code (.rangeFunc f ps c c') :: r) T H = HW P N L (.rangeFunc f ps c c') (Kx (ex P N L Q n) Q r) T H := rfl
theorem ex_draw {b : Nat} : ex P N L Q (n + 1) (.code (.region b (List.toArray l) true) :: r) T H = HW P N L (.region b (List.toArray l) true) (Kx (ex P N L Q n) Q r) T H := rfl

/-- Out of a block, and on. -/
def Kd (k : List Item → KS) (o : Option (List Item)) (q : KS) (T : Nat → HV) (H : Heap) : Prop := match o with | some r => k r T H | none => q T H
theorem Kd_some {q : KS} : Kd k (some r) q T H = k r T H := rfl
theorem Kd_none {q : KS} : Kd k none q T H = q T H := rfl
theorem Kx_normal : Kx k Q r .normal T H = k r T H := rfl
theorem Kx_exit {b : Nat} : Kx k Q r (.exit b) T H = Kd k (dropTo b r) (Q (.exit b)) T H := by
  simp only [Kx, Kd]
  cases hd : dropTo b r <;> rfl
theorem Kx_goto {b : Nat} : Kx k Q r (.goto b) T H = Q (.goto b) T H := rfl
theorem Kx_ret : Kx k Q r .ret T H = Q .ret T H := rfl

theorem fin_normal {Qn : KS} {Q : Exit → KS} : fin Qn Q .normal T H = Qn T H := rfl
theorem fin_exit {Qn : KS} {Q : Exit → KS} {b : Nat} : fin Qn Q (.exit b) T H = Q (.exit b) T H := rfl
theorem fin_goto {Qn : KS} {Q : Exit → KS} {b : Nat} : fin Qn Q (.goto b) T H = Q (.goto b) T H := rfl
theorem fin_ret {Qn : KS} {Q : Exit → KS} : fin Qn Q .ret T H = Q .ret T H := rfl
theorem keepT_at {ks : List Nat} {i : Nat} : keepT ks T i = if ks.contains i = true then T i else .any := rfl
theorem nmH_eq {m : Nat} : nmH m H = (H.take m).all fun o => match o with | some ob => nmR m ob.rows | none => true := rfl
theorem dropTo_nil {b : Nat} : dropTo b [] = none := rfl
theorem dropTo_endB {b c : Nat} : dropTo b (.endB c :: r) = if b = c then some r else dropTo b r := rfl
theorem dropTo_code {b : Nat} {c : Code} : dropTo b (.code c :: r) = dropTo b r := rfl
theorem dropTo_ops {b : Nat} : dropTo b (.ops all l :: r) = dropTo b r := rfl

theorem exC2_bool {c : Bool} {x y : Code} : exC2 k (.v (.bool c)) x y r T H = ((c = true → k (.code x :: r) T H) ∧ (c = false → k (.code y :: r) T H)) := rfl
theorem exR_rv1 {p : Prop} {x : HV} {i : Nat} : exR k (rv H p x) all (some i) l r T = (p ∧ k (.ops all l :: r) (upd T i x) H) := rfl
theorem exR_some1 {p : Prop} {x : HV} {i : Nat} : exR k (some (p, x, H)) all (some i) l r T = (p ∧ k (.ops all l :: r) (upd T i x) H) := rfl
theorem exR_rv0 {p : Prop} {x : HV} : exR k (rv H p x) all none l r T = (p ∧ k (.ops all l :: r) T H) := rfl
theorem exR_some0 {p : Prop} {x : HV} : exR k (some (p, x, H)) all none l r T = (p ∧ k (.ops all l :: r) T H) := rfl
theorem exRq_rv1 {p : Prop} {x : HV} {H' : Heap} {i : Nat} : exRq k (rv H' p x) all (some i) l r T H = (p ∧ k (.quiet all l :: r) (upd T i x) H) := rfl
theorem exB2_tf1 {t i : Nat} {op : Op} : exB2 k P (.v (.bool true)) t false all (some i) op l r T H = k (.ops all l :: r) (upd T i (.v undef)) H := by simp [exB2, updO]
theorem exB2_ft1 {t i : Nat} {op : Op} : exB2 k P (.v (.bool false)) t true all (some i) op l r T H = k (.ops all l :: r) (upd T i (.v undef)) H := by simp [exB2, updO]
theorem exB2_bool1 {c b : Bool} {t i : Nat} {op : Op} : exB2 k P (.v (.bool c)) t b all (some i) op l r T H = ((c = b → exO k P all (some i) op l r T H) ∧ (c = (!b) → k (.ops all l :: r) (upd T i (.v undef)) H)) := rfl
theorem exB2_undef1 {b : Bool} {t i : Nat} {op : Op} : exB2 k P (.v undef) t b all (some i) op l r T H = k (.ops all l :: r) (upd T i (.v undef)) H := rfl
theorem exBq2_tf1 {t i : Nat} {op : Op} : exBq2 k P (.v (.bool true)) t false all (some i) op l r T H = k (.quiet all l :: r) (upd T i (.v undef)) H := by simp [exBq2, updO]
theorem exBq2_ft1 {t i : Nat} {op : Op} : exBq2 k P (.v (.bool false)) t true all (some i) op l r T H = k (.quiet all l :: r) (upd T i (.v undef)) H := by simp [exBq2, updO]
theorem exBq2_bool1 {c b : Bool} {t i : Nat} {op : Op} : exBq2 k P (.v (.bool c)) t b all (some i) op l r T H = ((c = b → exOq k P all (some i) op l r T H) ∧ (c = (!b) → k (.quiet all l :: r) (upd T i (.v undef)) H)) := rfl
theorem exBq2_undef1 {b : Bool} {t i : Nat} {op : Op} : exBq2 k P (.v undef) t b all (some i) op l r T H = k (.quiet all l :: r) (upd T i (.v undef)) H := rfl

/-! what is looked into -/
theorem ex_congr {H' : Heap} (h : H = H') : ex P N L Q n r T H = ex P N L Q n r T H' := by rw [h]
theorem exO_congr {op : Op} {d' : Option Nat} (h : d = d') : exO k P all d op l r T H = exO k P all d' op l r T H := by rw [h]
theorem exR_congr {x x' : Res} (h : x = x') : exR k x all d l r T = exR k x' all d l r T := by rw [h]
theorem exRq_congr {x x' : Res} (h : x = x') : exRq k x all d l r T H = exRq k x' all d l r T H := by rw [h]
theorem exB_congr {t t' : Option Nat} {b : Bool} {op : Op} (h : t = t') : exB k P t b all d op l r T H = exB k P t' b all d op l r T H := by rw [h]
theorem exB2_congr {x x' : HV} {t : Nat} {b : Bool} {op : Op} (h : x = x') : exB2 k P x t b all d op l r T H = exB2 k P x' t b all d op l r T H := by rw [h]
theorem exBq_congr {t t' : Option Nat} {b : Bool} {op : Op} (h : t = t') : exBq k P t b all d op l r T H = exBq k P t' b all d op l r T H := by rw [h]
theorem exBq2_congr {x x' : HV} {t : Nat} {b : Bool} {op : Op} (h : x = x') : exBq2 k P x t b all d op l r T H = exBq2 k P x' t b all d op l r T H := by rw [h]
theorem exC2_congr {v v' : HV} {x y : Code} (h : v = v') : exC2 k v x y r T H = exC2 k v' x y r T H := by rw [h]
theorem exCall_congr {f f' : HV} {args args' : List HV} (hf : f = f') (ha : args = args') : exCall k P f H args all d l r T = exCall k P f' H args' all d l r T := by rw [hf, ha]
theorem callX_congr {fid : Nat} {args args' : List HV} (ha : args = args') : callX k P fid H args all d l r T = callX k P fid H args' all d l r T := by rw [ha]
theorem HW_congr {c : Code} {H' : Heap} (h : H = H') : HW P N L c Q T H = HW P N L c Q T H' := by rw [h]
theorem GQ_congr {R : KS} {H' : Heap} (h : H = H') : GQ N L R T H = GQ N L R T H' := by rw [h]

theorem exR_rv {p : Prop} {x : HV} : exR k (rv H p x) all d l r T = (p ∧ k (.ops all l :: r) (updO T d x) H) := rfl
theorem exR_some {p : Prop} {x : HV} : exR k (some (p, x, H)) all d l r T = (p ∧ k (.ops all l :: r) (updO T d x) H) := rfl
theorem exR_none : exR k none all d l r T = False := rfl
theorem exCall_fn {fid : Nat} {caps args : List HV} : exCall k P (.fn fid caps) H args all d l r T = callX k P fid H (args ++ caps) all d l r T := rfl
theorem exO_call {f : Operand} {args : List Operand} {tys : Array TypeId} : exO k P all d (.call { callee := .value f, args := List.toArray args, argTypes := tys }) l r T H = exCall k P (hev T f) H (args.map (hev T)) all d l r T := rfl
theorem exO_builtin {b : Builtin} {args : Array Operand} {tys : Array TypeId} : exO k P all d (.call { callee := .builtin b, args := args, argTypes := tys }) l r T H = exR k (rop P T H (.call { callee := .builtin b, args := args, argTypes := tys })) all d l r T := rfl
theorem exB_some {t : Nat} {b : Bool} {op : Op} : exB k P (some t) b all d op l r T H = exB2 k P (T t) t b all d op l r T H := rfl
theorem exB2_bool {c b : Bool} {t : Nat} {op : Op} : exB2 k P (.v (.bool c)) t b all d op l r T H = ((c = b → exO k P all d op l r T H) ∧ (c = (!b) → k (.ops all l :: r) (updO T d (.v undef)) H)) := rfl
theorem exB2_tt {t : Nat} {op : Op} : exB2 k P (.v (.bool true)) t true all d op l r T H = exO k P all d op l r T H := by simp [exB2]
theorem exB2_ff {t : Nat} {op : Op} : exB2 k P (.v (.bool false)) t false all d op l r T H = exO k P all d op l r T H := by simp [exB2]
theorem exB2_tf {t : Nat} {op : Op} : exB2 k P (.v (.bool true)) t false all d op l r T H = k (.ops all l :: r) (updO T d (.v undef)) H := by simp [exB2]
theorem exB2_ft {t : Nat} {op : Op} : exB2 k P (.v (.bool false)) t true all d op l r T H = k (.ops all l :: r) (updO T d (.v undef)) H := by simp [exB2]
theorem exC2_true {x y : Code} : exC2 k (.v (.bool true)) x y r T H = k (.code x :: r) T H := by simp [exC2]
theorem exC2_false {x y : Code} : exC2 k (.v (.bool false)) x y r T H = k (.code y :: r) T H := by simp [exC2]
theorem exB2_undef {b : Bool} {t : Nat} {op : Op} : exB2 k P (.v undef) t b all d op l r T H = k (.ops all l :: r) (updO T d (.v undef)) H := rfl
theorem exBq2_undef {b : Bool} {t : Nat} {op : Op} : exBq2 k P (.v undef) t b all d op l r T H = k (.quiet all l :: r) (updO T d (.v undef)) H := rfl
theorem dstAt_zero {o : Oper} : dstAt (o :: all) 0 = o.dst := rfl
theorem dstAt_succ {o : Oper} {j : Nat} : dstAt (o :: all) (j + 1) = dstAt all j := by simp [dstAt]
theorem updO_some {i : Nat} {x : HV} : updO T (some i) x = upd T i x := rfl
theorem updO_none {x : HV} : updO T none x = T := rfl
theorem upd_eq {i : Nat} {x : HV} : upd T i x i = x := by simp [upd]
theorem upd_ne {i j : Nat} {x : HV} (h : (j == i) = false) : upd T i x j = T j := by
  have : j ≠ i := by simpa using h
  simp [upd, this]
theorem hev_tmp {t : Nat} : hev T (.tmp t) = T t := rfl
theorem hev_func {f : Nat} : hev T (.func f) = .fn f [] := rfl
theorem hev_const {x : Value} : hev T (.const x) = cHV x := rfl
theorem T0_zero {h : HV} {t : List HV} : T0 (h :: t) 0 = h := rfl
theorem T0_succ {h : HV} {t : List HV} {i : Nat} : T0 (h :: t) (i + 1) = T0 t i := by simp [T0]
theorem T0_nil {i : Nat} : T0 [] i = .any := rfl

theorem exO_move {x : Operand} : exO k P all d (.move x) l r T H = exR k (rv H True (hev T x)) all d l r T := rfl
theorem exO_assign {x : Operand} : exO k P all d (.assign x) l r T H = exR k (rv H True (hev T x)) all d l r T := rfl
theorem exO_pick {c x y : Operand} : exO k P all d (.pick c x y) l r T H = exR k (rpick H (hev T c) (hev T x) (hev T y)) all d l r T := rfl
theorem exO_alloc {t : TypeId} : exO k P all d (.alloc t) l r T H = exR k (ralloc P H t) all d l r T := rfl
theorem exO_box {t : TypeId} {x : Operand} : exO k P all d (.box t x) l r T H = exR k (rbox P H t (hev T x)) all d l r T := rfl
theorem exO_build {t : TypeId} {ps : List (Nat × Operand)} : exO k P all d (.build t (List.toArray ps)) l r T H = exR k (rbuild P H t (ps.map fun p => (p.1, hev T p.2))) all d l r T := rfl
theorem exO_buildSlice {t : TypeId} {len : Nat} {ps : List (Nat × Operand)} : exO k P all d (.buildSlice t len (List.toArray ps)) l r T H = exR k (rbuildSlice P T H t len ps) all d l r T := rfl
theorem exO_load {t : TypeId} {a : Operand} : exO k P all d (.load t a) l r T H = exR k (rload P H t (hev T a)) all d l r T := rfl
theorem exO_store {t : TypeId} {a x : Operand} : exO k P all d (.store t a x) l r T H = exR k (rstore P H t (hev T a) (hev T x)) all d l r T := rfl
theorem exO_nilCheck {x : Operand} : exO k P all d (.nilCheck x) l r T H = exR k (rsure H (hev T x)) all d l r T := rfl
theorem exO_bin {op : BinOp} {t t' : TypeId} {x y : Operand} : exO k P all d (.binOp op t x y t') l r T H = exR k (rbin P H op t (isC x || isC y) (hev T x) (hev T y)) all d l r T := rfl
theorem exO_un {op : UnOp} {t : TypeId} {x : Operand} : exO k P all d (.unOp op t x) l r T H = exR k (run1 H op (hev T x)) all d l r T := rfl
theorem exO_conv {s t : TypeId} {x : Operand} : exO k P all d (.convert s t x) l r T H = exR k (rconvA P H s t (hev T x)) all d l r T := rfl
theorem exO_iface {t : TypeId} {x : Operand} : exO k P all d (.makeInterface t x) l r T H = exR k (riface P H t (hev T x)) all d l r T := rfl
theorem exO_func {f : Nat} {cs : List Operand} : exO k P all d (.makeFunc (.func f) #[] (List.toArray cs)) l r T H = exR k (rv H True (.fn f (cs.map (hev T)))) all d l r T := rfl
theorem exO_makeSlice {t : TypeId} {x y : Operand} : exO k P all d (.makeSlice t x y) l r T H = exR k (rmakeSlice P H t (hev T x) (hev T y)) all d l r T := rfl
theorem exO_slice1 {t : TypeId} {x lo hi : Operand} : exO k P all d (.slice t x (some lo) (some hi) none) l r T H = exR k (rcut P H t (hev T x) (some (hev T lo)) (some (hev T hi))) all d l r T := rfl
theorem exO_slice4 {t : TypeId} {x lo : Operand} : exO k P all d (.slice t x (some lo) none none) l r T H = exR k (rcutB P H t (hev T x) (hev T lo)) all d l r T := rfl
theorem exO_slice2 {t : TypeId} {x : Operand} : exO k P all d (.slice t x none none none) l r T H = exR k (rcut P H t (hev T x) none none) all d l r T := rfl
theorem exO_slice3 {t : TypeId} {x hi : Operand} : exO k P all d (.slice t x none (some hi) none) l r T H = exR k (rcutT P H t (hev T x) (hev T hi)) all d l r T := rfl
theorem rcutT_hd {t : TypeId} {id len : Nat} {h : HV} : rcutT P H t (.hd id 0 len) h = bindO (elemTI P t 3) fun e => bindO (boundV (some h) 0) fun y => bindO (getO H id) fun ob =>
      some (len = ob.rows.length ∧ ob.sz = e.2.2.size ∧ 0 ≤ y ∧ y ≤ (len : Int), .hd H.length 0 y.toNat, H.set id none ++ [some { ob with rows := ob.rows.take y.toNat }]) := rfl
theorem rcutT_sl {t : TypeId} {rows : List (List HV)} {h : HV} : rcutT P H t (.sl rows) h = rcut P H t (.sl rows) none (some h) := rfl
theorem rcutT_str {t : TypeId} {a : List UInt8} {h : HV} : rcutT P H t (.v (str a)) h = rcut P H t (.v (str a)) none (some h) := rfl
theorem exO_fieldAddr {t : TypeId} {x : Operand} {i : Nat} : exO k P all d (.fieldAddr t x i) l r T H = exR k (rfieldAddr P H t (hev T x) i) all d l r T := rfl
theorem exO_field {t : TypeId} {x : Operand} {i : Nat} : exO k P all d (.field t x i) l r T H = exR k (rfield P H t (hev T x) i) all d l r T := rfl
theorem exO_indexAddr {t : TypeId} {x i : Operand} : exO k P all d (.indexAddr t x i) l r T H = exR k (rindexAddr P H t (hev T x) (hev T i)) all d l r T := rfl
theorem exO_index {t : TypeId} {x i : Operand} : exO k P all d (.index t x i) l r T H = exR k (rindex P H t (hev T x) (hev T i)) all d l r T := rfl
theorem exO_extract {x : Operand} {i : Nat} : exO k P all d (.extract x i) l r T H = exR k (rextract H (hev T x) i) all d l r T := rfl
theorem exO_len {x : Operand} {t : TypeId} : exO k P all d (.call { callee := .builtin .len, args := #[x], argTypes := #[t] }) l r T H = exR k (rlen P H t (hev T x)) all d l r T := rfl
theorem exO_append {s x : Operand} {t : TypeId} : exO k P all d (.call { callee := .builtin .append, args := #[s, x], argTypes := #[t, t] }) l r T H = exR k (rappend P H t (hev T s) (hev T x)) all d l r T := by
  show exR k (if t = t then rappend P H t (hev T s) (hev T x) else none) all d l r T = _
  rw [if_pos rfl]

/-! quiet regions -/
theorem ex_quietnil : ex P N L Q (n + 1) (.quiet all [] :: r) T H = ex P N L Q n r T H := rfl
theorem ex_quiet1 {op : Op} {ty : TypeId} {pos : String} {af : Array Edge} : ex P N L Q (n + 1) (.quiet all (⟨d, op, ty, pos, af, none⟩ :: l) :: r) T H = exOq (ex P N L Q n) P all d op l r T H := rfl
theorem ex_quietg {op : Op} {ty : TypeId} {pos : String} {af : Array Edge} {j : Nat} {b : Bool} : ex P N L Q (n + 1) (.quiet all (⟨d, op, ty, pos, af, some (j, b)⟩ :: l) :: r) T H = exBq (ex P N L Q n) P (dstAt all j) b all d op l r T H := rfl
theorem exRq_rv {p : Prop} {x : HV} {H' : Heap} : exRq k (rv H' p x) all d l r T H = (p ∧ k (.quiet all l :: r) (updO T d x) H) := rfl
theorem exRq_none : exRq k none all d l r T H = False := rfl
theorem exBq_some {t : Nat} {b : Bool} {op : Op} : exBq k P (some t) b all d op l r T H = exBq2 k P (T t) t b all d op l r T H := rfl
theorem exBq2_bool {c b : Bool} {t : Nat} {op : Op} : exBq2 k P (.v (.bool c)) t b all d op l r T H = ((c = b → exOq k P all d op l r T H) ∧ (c = (!b) → k (.quiet all l :: r) (updO T d (.v undef)) H)) := rfl
theorem exBq2_tt {t : Nat} {op : Op} : exBq2 k P (.v (.bool true)) t true all d op l r T H = exOq k P all d op l r T H := by simp [exBq2]
theorem exBq2_ff {t : Nat} {op : Op} : exBq2 k P (.v (.bool false)) t false all d op l r T H = exOq k P all d op l r T H := by simp [exBq2]
theorem exBq2_tf {t : Nat} {op : Op} : exBq2 k P (.v (.bool true)) t false all d op l r T H = k (.quiet all l :: r) (updO T d (.v undef)) H := by simp [exBq2]
theorem exBq2_ft {t : Nat} {op : Op} : exBq2 k P (.v (.bool false)) t true all d op l r T H = k (.quiet all l :: r) (updO T d (.v undef)) H := by simp [exBq2]
/-! operations of a region that draws its order -/
theorem exOq_move {x : Operand} : exOq k P all d (.move x) l r T H = exRq k (ropQ P T H (.move x)) all d l r T H := rfl
theorem exOq_assign {x : Operand} : exOq k P all d (.assign x) l r T H = exRq k (ropQ P T H (.assign x)) all d l r T H := rfl
theorem exOq_pick {c x y : Operand} : exOq k P all d (.pick c x y) l r T H = exRq k (ropQ P T H (.pick c x y)) all d l r T H := rfl
theorem exOq_build {t : TypeId} {ps : Array (Nat × Operand)} : exOq k P all d (.build t ps) l r T H = exRq k (ropQ P T H (.build t ps)) all d l r T H := rfl
theorem exOq_load {t : TypeId} {a : Operand} : exOq k P all d (.load t a) l r T H = exRq k (ropQ P T H (.load t a)) all d l r T H := rfl
theorem exOq_nilCheck {x : Operand} : exOq k P all d (.nilCheck x) l r T H = exRq k (ropQ P T H (.nilCheck x)) all d l r T H := rfl
theorem exOq_bin {op : BinOp} {t t' : TypeId} {x y : Operand} : exOq k P all d (.binOp op t x y t') l r T H = exRq k (ropQ P T H (.binOp op t x y t')) all d l r T H := rfl
theorem exOq_un {op : UnOp} {t : TypeId} {x : Operand} : exOq k P all d (.unOp op t x) l r T H = exRq k (ropQ P T H (.unOp op t x)) all d l r T H := rfl
theorem exOq_conv {s t : TypeId} {x : Operand} : exOq k P all d (.convert s t x) l r T H = exRq k (ropQ P T H (.convert s t x)) all d l r T H := rfl
theorem exOq_iface {t : TypeId} {x : Operand} : exOq k P all d (.makeInterface t x) l r T H = exRq k (ropQ P T H (.makeInterface t x)) all d l r T H := rfl
theorem exOq_func {f : Nat} {cs : List Operand} : exOq k P all d (.makeFunc (.func f) #[] (List.toArray cs)) l r T H = exRq k (ropQ P T H (.makeFunc (.func f) #[] (List.toArray cs))) all d l r T H := rfl
theorem exOq_slice {t : TypeId} {x : Operand} {lo hi : Option Operand} : exOq k P all d (.slice t x lo hi none) l r T H = exRq k (ropQ P T H (.slice t x lo hi none)) all d l r T H := rfl
theorem exOq_fieldAddr {t : TypeId} {x : Operand} {i : Nat} : exOq k P all d (.fieldAddr t x i) l r T H = exRq k (ropQ P T H (.fieldAddr t x i)) all d l r T H := rfl
theorem exOq_field {t : TypeId} {x : Operand} {i : Nat} : exOq k P all d (.field t x i) l r T H = exRq k (ropQ P T H (.field t x i)) all d l r T H := rfl
theorem exOq_indexAddr {t : TypeId} {x i : Operand} : exOq k P all d (.indexAddr t x i) l r T H = exRq k (ropQ P T H (.indexAddr t x i)) all d l r T H := rfl
theorem exOq_index {t : TypeId} {x i : Operand} : exOq k P all d (.index t x i) l r T H = exRq k (ropQ P T H (.index t x i)) all d l r T H := rfl
theorem exOq_extract {x : Operand} {i : Nat} : exOq k P all d (.extract x i) l r T H = exRq k (ropQ P T H (.extract x i)) all d l r T H := rfl
theorem exOq_builtin {b : Builtin} {args : Array Operand} {tys : Array TypeId} : exOq k P all d (.call { callee := .builtin b, args := args, argTypes := tys }) l r T H = exRq k (ropQ P T H (.call { callee := .builtin b, args := args, argTypes := tys })) all d l r T H := rfl
theorem exOq_call {f : Operand} {args : List Operand} {tys : Array TypeId} : exOq k P all d (.call { callee := .value f, args := List.toArray args, argTypes := tys }) l r T H = exCallQ k P (hev T f) H (args.map (hev T)) all d l r T := rfl
theorem exOq_invoke {rv : Operand} {name : String} {args : List Operand} {tys : Array TypeId} : exOq k P all d (.call { callee := .invoke rv name, args := List.toArray args, argTypes := tys }) l r T H = exInvQ k P (hev T rv) name H (args.map (hev T)) all d l r T := rfl
theorem exO_invoke {rv : Operand} {name : String} {args : List Operand} {tys : Array TypeId} : exO k P all d (.call { callee := .invoke rv name, args := List.toArray args, argTypes := tys }) l r T H = exInv k P (hev T rv) name H (args.map (hev T)) all d l r T := rfl
theorem exCallQ_fn {fid : Nat} {caps args : List HV} : exCallQ k P (.fn fid caps) H args all d l r T = callQ k P fid H (args ++ caps) all d l r T := rfl
theorem exInv_ic {t : TypeId} {x : HV} {name : String} {args : List HV} : exInv k P (.ic t x) name H args all d l r T = exInv2 k P (methodFn P t name) H (x :: args) all d l r T := rfl
theorem exInv2_some {fid : Nat} {args : List HV} : exInv2 k P (some fid) H args all d l r T = callX k P fid H args all d l r T := rfl
theorem exInvQ_ic {t : TypeId} {x : HV} {name : String} {args : List HV} : exInvQ k P (.ic t x) name H args all d l r T = exInvQ2 k P (methodFn P t name) H (x :: args) all d l r T := rfl
theorem exInvQ2_some {fid : Nat} {args : List HV} : exInvQ2 k P (some fid) H args all d l r T = callQ k P fid H args all d l r T := rfl
theorem exCallQ_congr {f f' : HV} {args args' : List HV} (hf : f = f') (ha : args = args') : exCallQ k P f H args all d l r T = exCallQ k P f' H args' all d l r T := by rw [hf, ha]
theorem exInv_congr {f f' : HV} {name : String} {args args' : List HV} (hf : f = f') (ha : args = args') : exInv k P f name H args all d l r T = exInv k P f' name H args' all d l r T := by rw [hf, ha]
theorem exInvQ_congr {f f' : HV} {name : String} {args args' : List HV} (hf : f = f') (ha : args = args') : exInvQ k P f name H args all d l r T = exInvQ k P f' name H args' all d l r T := by rw [hf, ha]
theorem exInv2_congr {f f' : Option Nat} {args args' : List HV} (hf : f = f') (ha : args = args') : exInv2 k P f H args all d l r T = exInv2 k P f' H args' all d l r T := by rw [hf, ha]
theorem exInvQ2_congr {f f' : Option Nat} {args args' : List HV} (hf : f = f') (ha : args = args') : exInvQ2 k P f H args all d l r T = exInvQ2 k P f' H args' all d l r T := by rw [hf, ha]
theorem callQ_fn {fid : Nat} {args args' : List HV} {R : HV} (n : Nat) (spec : HFn P fid args' R) (hargs : args.map (fz n H) = args') (hnz : nz R = true) (hfz : fzo R = R) (h : k (.quiet all l :: r) (updO T d R) H) : callQ k P fid H args all d l r T := by
  subst hargs
  exact ⟨n, R, _, spec, .inl ⟨rfl, hnz⟩, by rw [hfz]; exact h⟩
/-- What comes back is shut. -/
theorem callQ_shut {fid : Nat} {args args' : List HV} {R : HV} (n : Nat) (spec : HFn P fid args' R) (hargs : args.map (fz n H) = args') (hnz : nz R = true) (h : k (.quiet all l :: r) (updO T d (fzo R)) H) : callQ k P fid H args all d l r T :=
  ⟨n, R, _, spec, .inl ⟨hargs, hnz⟩, h⟩
/-- The arguments have no names. -/
theorem callQ_nm {fid : Nat} {args args' : List HV} {R : HV} (spec : HFn P fid args' R) (hargs : args = args') (hnm : nmL 0 args = true) (h : k (.quiet all l :: r) (updO T d (fzo R)) H) : callQ k P fid H args all d l r T :=
  ⟨0, R, _, spec, .inr ⟨hargs, hnm⟩, h⟩
theorem exOq_buildSlice {t : TypeId} {len : Nat} {ps : List (Nat × Operand)} : exOq k P all d (.buildSlice t len (List.toArray ps)) l r T H = exRq k (rbuildSliceF P T H t len ps) all d l r T H := rfl
theorem exO_max {x y : Operand} {t u : TypeId} : exO k P all d (.call { callee := .builtin .max, args := #[x, y], argTypes := #[t, u] }) l r T H = exR k (rmm true H (hev T x) (hev T y)) all d l r T := rfl
theorem exO_min {x y : Operand} {t u : TypeId} : exO k P all d (.call { callee := .builtin .min, args := #[x, y], argTypes := #[t, u] }) l r T H = exR k (rmm false H (hev T x) (hev T y)) all d l r T := rfl
theorem ropQ_max {x y : Operand} {t u : TypeId} : ropQ P T H (.call { callee := .builtin .max, args := #[x, y], argTypes := #[t, u] }) = rmm true H (hev T x) (hev T y) := rfl
theorem ropQ_min {x y : Operand} {t u : TypeId} : ropQ P T H (.call { callee := .builtin .min, args := #[x, y], argTypes := #[t, u] }) = rmm false H (hev T x) (hev T y) := rfl
theorem rmm_max {i : IntKind} {x y : Int} : rmm true H (.v (.int i x)) (.v (.int i y)) = rv H True (.v (.int i (if y > x then y else x))) := rfl
theorem rmm_min {i : IntKind} {x y : Int} : rmm false H (.v (.int i x)) (.v (.int i y)) = rv H True (.v (.int i (if y < x then y else x))) := rfl

/-- A text turned into bytes, or into a text. -/
def rconvB (P : Program) (H : Heap) (s t : TypeId) (a : List UInt8) : Bool → Res
  | true => bindO (elemTI P t 3) fun e => rv H (kindIs P s 4 = true ∧ intTy P e.2.1 = some .u8 ∧ a.length ≤ 140737488355328) (.sl (a.map byteRow))
  | false => rconv P H s t (.v (str a))
theorem rconvB_true {s t : TypeId} {a : List UInt8} : rconvB P H s t a true = bindO (elemTI P t 3) fun e => rv H (kindIs P s 4 = true ∧ intTy P e.2.1 = some .u8 ∧ a.length ≤ 140737488355328) (.sl (a.map byteRow)) := rfl
theorem rconvB_false {s t : TypeId} {a : List UInt8} : rconvB P H s t a false = rconv P H s t (.v (str a)) := rfl
theorem rconvA_str {s t : TypeId} {a : List UInt8} : rconvA P H s t (.v (str a)) = rconvB P H s t a (kindIs P t 3) := by
  unfold rconvA str
  dsimp only
  cases kindIs P t 3 <;> rfl
theorem rconvA_int {s t : TypeId} {i : IntKind} {x : Int} : rconvA P H s t (.v (.int i x)) = rconv P H s t (.v (.int i x)) := rfl
theorem rconvA_hd {s t : TypeId} {id o m : Nat} : rconvA P H s t (.hd id o m) = rconv P H s t (.hd id o m) := rfl
theorem rconvA_sl {s t : TypeId} {rows : List (List HV)} : rconvA P H s t (.sl rows) = rconv P H s t (.sl rows) := rfl
theorem rconvA_nil {s t : TypeId} : rconvA P H s t (.v (.slice none 0 0)) = rconv P H s t (.v (.slice none 0 0)) := rfl

theorem rcutB_pt {t : TypeId} {id m : Nat} {lo : HV} : rcutB P H t (.pt id m 0 0) lo = bindO (arrTI P t) fun m' => bindO (boundV (some lo) 0) fun z => bindO (getO H id) fun ob => bindO (oneRow ob.rows) fun row =>
      some (m = 1 ∧ row.length = m' ∧ m' ≤ 140737488355328 ∧ 0 ≤ z ∧ z ≤ (m' : Int), .sl (((fzoL row).map fun c => [c]).drop z.toNat), H.set id none) := rfl
theorem rcutB_str {t : TypeId} {a : List UInt8} {lo : HV} : rcutB P H t (.v (str a)) lo = rcut P H t (.v (str a)) (some lo) none := rfl
theorem rcutB_hd {t : TypeId} {id o m : Nat} {lo : HV} : rcutB P H t (.hd id o m) lo = rcut P H t (.hd id o m) (some lo) none := rfl
theorem rcutB_sl {t : TypeId} {rows : List (List HV)} {lo : HV} : rcutB P H t (.sl rows) lo = rcut P H t (.sl rows) (some lo) none := rfl
theorem oneRow_one {r' : List HV} : oneRow [r'] = some r' := rfl

theorem binRes_ag {op : BinOp} {t : TypeId} {c : Bool} {a b : List HV} : binRes P op t c (.ag a) (.ag b) = (eqKinds P t).bind fun ks => (eqK ks a b).bind fun r => eqRes op r := rfl
theorem eqK_nil : eqK [] [] [] = some true := rfl
theorem eqK_int {ks : List Nat} {i : IntKind} {x y : Int} {a b : List HV} : eqK (8 :: ks) (.v (.int i x) :: a) (.v (.int i y) :: b) = (eqK ks a b).map fun r => decide (x = y) && r := by simp [eqK]
theorem eqK_str {ks : List Nat} {x y : List UInt8} {a b : List HV} : eqK (4 :: ks) (.v (str x) :: a) (.v (str y) :: b) = (eqK ks a b).map fun r => decide (x = y) && r := rfl
theorem eqK_bool {ks : List Nat} {x y : Bool} {a b : List HV} : eqK (7 :: ks) (.v (.bool x) :: a) (.v (.bool y) :: b) = (eqK ks a b).map fun r => decide (x = y) && r := by simp [eqK]
theorem lappend_nil {α : Type} {b : List α} : List.append [] b = b := rfl
theorem lappend_cons {α : Type} {x : α} {a b : List α} : List.append (x :: a) b = x :: List.append a b := rfl
theorem dropTo_quiet {b : Nat} : dropTo b (.quiet all l :: r) = dropTo b r := rfl
theorem ropQ_move {x : Operand} : ropQ P T H (.move x) = rv H True (hev T x) := rfl
theorem ropQ_assign {x : Operand} : ropQ P T H (.assign x) = rv H True (hev T x) := rfl
theorem ropQ_pick {c x y : Operand} : ropQ P T H (.pick c x y) = rpick H (hev T c) (hev T x) (hev T y) := rfl
theorem ropQ_build {t : TypeId} {ps : List (Nat × Operand)} : ropQ P T H (.build t (List.toArray ps)) = rbuild P H t (ps.map fun p => (p.1, hev T p.2)) := rfl
theorem ropQ_load {t : TypeId} {a : Operand} : ropQ P T H (.load t a) = bindO (ti P t) fun x => rloadQ x H (hev T a) := rfl
theorem ropQ_nilCheck {x : Operand} : ropQ P T H (.nilCheck x) = rsure H (hev T x) := rfl
theorem ropQ_bin {op : BinOp} {t t' : TypeId} {x y : Operand} : ropQ P T H (.binOp op t x y t') = rbin P H op t (isC x || isC y) (hev T x) (hev T y) := rfl
theorem ropQ_un {op : UnOp} {t : TypeId} {x : Operand} : ropQ P T H (.unOp op t x) = run1 H op (hev T x) := rfl
theorem ropQ_conv {s t : TypeId} {x : Operand} : ropQ P T H (.convert s t x) = rconv P H s t (hev T x) := rfl
theorem ropQ_iface {t : TypeId} {x : Operand} : ropQ P T H (.makeInterface t x) = riface P H t (hev T x) := rfl
theorem ropQ_slice {t : TypeId} {x : Operand} {lo hi : Option Operand} : ropQ P T H (.slice t x lo hi none) = rcut P H t (hev T x) (lo.map (hev T)) (hi.map (hev T)) := rfl
theorem ropQ_fieldAddr {t : TypeId} {x : Operand} {i : Nat} : ropQ P T H (.fieldAddr t x i) = rfieldAddr P H t (hev T x) i := rfl
theorem ropQ_field {t : TypeId} {x : Operand} {i : Nat} : ropQ P T H (.field t x i) = rfield P H t (hev T x) i := rfl
theorem ropQ_indexAddr {t : TypeId} {x i : Operand} : ropQ P T H (.indexAddr t x i) = rindexAddr P H t (hev T x) (hev T i) := rfl
theorem ropQ_index {t : TypeId} {x i : Operand} : ropQ P T H (.index t x i) = rindex P H t (hev T x) (hev T i) := rfl
theorem ropQ_extract {x : Operand} {i : Nat} : ropQ P T H (.extract x i) = rextract H (hev T x) i := rfl
theorem ropQ_len {x : Operand} {t : TypeId} : ropQ P T H (.call { callee := .builtin .len, args := #[x], argTypes := #[t] }) = rlen P H t (hev T x) := rfl

/-! what is reckoned, by the form of the values -/
theorem rpick_true {x y : HV} : rpick H (.v (.bool true)) x y = rv H True x := rfl
theorem rpick_false {x y : HV} : rpick H (.v (.bool false)) x y = rv H True y := rfl
theorem run1_not {b : Bool} : run1 H .not (.v (.bool b)) = rv H True (.v (.bool (!b))) := rfl
theorem run1_neg {i : IntKind} {z : Int} : run1 H .neg (.v (.int i z)) = rv H True (.v (.int i (i.wrap (0 - z)))) := rfl
theorem rextract_tu {vs : List HV} {i : Nat} : rextract H (.tu vs) i = bindO vs[i]? fun v => rv H True v := rfl
theorem rconv_int {s t : TypeId} {i : IntKind} {z : Int} : rconv P H s t (.v (.int i z)) = bindO (intTy P s) fun _ => bindO (intTy P t) fun k' => rv H True (.v (.int k' (k'.wrap z))) := rfl
theorem rconv_str {s t : TypeId} {a : List UInt8} : rconv P H s t (.v (str a)) = rv H (kindIs P s 4 = true ∧ kindIs P t 4 = true) (.v (str a)) := rfl
theorem rconv_hd {s t : TypeId} {id o len : Nat} : rconv P H s t (.hd id o len) = bindO (elemTI P s 3) fun e => bindO (srcRows H (.hd id o len)) fun rows => bindO (bytesOf rows) fun l => rv H (intTy P e.2.1 = some .u8 ∧ kindIs P t 4 = true) (.v (str l)) := rfl
theorem rconv_sl {s t : TypeId} {rows : List (List HV)} : rconv P H s t (.sl rows) = bindO (elemTI P s 3) fun e => bindO (srcRows H (.sl rows)) fun rows => bindO (bytesOf rows) fun l => rv H (intTy P e.2.1 = some .u8 ∧ kindIs P t 4 = true) (.v (str l)) := rfl
theorem rsure_fp {rows : List (List HV)} {i o : Nat} : rsure H (.fp rows i o) = rv H True (.fp rows i o) := rfl
theorem rsure_pt {id m i o : Nat} : rsure H (.pt id m i o) = rv H (liveAt H (.pt id m i o) = true) (.pt id m i o) := rfl
theorem rsure_fn {f : Nat} {cs : List HV} : rsure H (.fn f cs) = rv H True (.fn f cs) := rfl
theorem rsure_ic {t : TypeId} {x : HV} : rsure H (.ic t x) = rv H True (.ic t x) := rfl
theorem liveAt_fp {rows : List (List HV)} {i o : Nat} : liveAt H (.fp rows i o) = true := rfl
theorem liveAt_pt {id m i o : Nat} : liveAt H (.pt id m i o) = (match getO H id with | some ob => m == ob.rows.length && ob.rows.length != 0 | none => false) := by
  simp only [liveAt, getO]
  cases h : H[id]? with
  | none => rfl
  | some o' => cases o' <;> rfl
theorem rfield_ag {cs : List HV} {t : TypeId} {i : Nat} : rfield P H t (.ag cs) i = bindO (fldAt P t i) fun f => rv H (okTI f.2 = true ∧ f.1 + f.2.size ≤ cs.length) (mkV f.2 ((cs.drop f.1).take f.2.size)) := rfl
theorem rindexAddr_sl {rows : List (List HV)} {t : TypeId} {i : IntKind} {z : Int} : rindexAddr P H t (.sl rows) (.v (.int i z)) = bindO (elemTI P t 3) fun e => rv H (0 ≤ z ∧ z < (rows.length : Int) ∧ RowsLen rows e.2.2.size) (.fp rows z.toNat 0) := rfl
theorem rindexAddr_hd {id o len : Nat} {t : TypeId} {i : IntKind} {z : Int} : rindexAddr P H t (.hd id o len) (.v (.int i z)) = bindO (elemTI P t 3) fun e => bindO (getO H id) fun ob => rv H (o + len = ob.rows.length ∧ ob.sz = e.2.2.size ∧ 0 ≤ z ∧ z < (len : Int)) (.pt id ob.rows.length (o + z.toNat) 0) := rfl
theorem rindexAddr_pt {id m r' o : Nat} {t : TypeId} {i : IntKind} {z : Int} : rindexAddr P H t (.pt id m r' o) (.v (.int i z)) = bindO (elemTI P t 2) fun e => rv H (liveAt H (.pt id m r' o) = true ∧ 0 ≤ z ∧ z < (e.1.num : Int)) (.pt id m r' (o + z.toNat * e.2.2.size)) := rfl
theorem rindexAddr_fp {rows : List (List HV)} {j o : Nat} {t : TypeId} {i : IntKind} {z : Int} : rindexAddr P H t (.fp rows j o) (.v (.int i z)) = bindO (elemTI P t 2) fun e => rv H (0 ≤ z ∧ z < (e.1.num : Int)) (.fp rows j (o + z.toNat * e.2.2.size)) := rfl
theorem rindex_str {a : List UInt8} {t : TypeId} {i : IntKind} {z : Int} : rindex P H t (.v (str a)) (.v (.int i z)) = bindO a[z.toNat]? fun b => rv H (kindIs P t 4 = true ∧ 0 ≤ z) (.v (.int .u8 (b.toNat : Int))) := rfl
theorem rindex_ag {cs : List HV} {t : TypeId} {i : IntKind} {z : Int} : rindex P H t (.ag cs) (.v (.int i z)) = bindO (elemTI P t 2) fun e => rv H (okTI e.2.2 = true ∧ 0 ≤ z ∧ z < (e.1.num : Int) ∧ z.toNat * e.2.2.size + e.2.2.size ≤ cs.length) (mkV e.2.2 ((cs.drop (z.toNat * e.2.2.size)).take e.2.2.size)) := rfl
theorem bv_none {z : Int} : boundV none z = some z := rfl
theorem bv_int {i : IntKind} {y z : Int} : boundV (some (.v (.int i y))) z = some y := rfl
theorem extract_str (a : List UInt8) (i j : Nat) : Value.string ((⟨a.toArray⟩ : ByteArray).extract i j) = str ((a.take j).drop i) := by
  unfold str
  congr 1
  apply ByteArray.ext
  apply Array.ext'
  simp [ByteArray.data_extract, List.extract_eq_take_drop, List.drop_take]
theorem rcut_str {a : List UInt8} {t : TypeId} {lo hi : Option HV} : rcut P H t (.v (str a)) lo hi = bindO (boundV lo 0) fun x => bindO (boundV hi (a.length : Int)) fun y => rv H (kindIs P t 4 = true ∧ 0 ≤ x ∧ x ≤ y ∧ y ≤ (a.length : Int)) (.v (str ((a.take y.toNat).drop x.toNat))) := by
  have e : ∀ x y : Nat, Value.string ((⟨a.toArray⟩ : ByteArray).extract x y) = str ((a.take y).drop x) := extract_str a
  have e2 : (⟨a.toArray⟩ : ByteArray).size = a.length := by simp [ByteArray.size]
  show bindO (boundV lo 0) (fun x => bindO (boundV hi ((⟨a.toArray⟩ : ByteArray).size : Int)) fun y => rv H (kindIs P t 4 = true ∧ 0 ≤ x ∧ x ≤ y ∧ y ≤ ((⟨a.toArray⟩ : ByteArray).size : Int)) (.v (.string ((⟨a.toArray⟩ : ByteArray).extract x.toNat y.toNat)))) = _
  rw [e2]
  simp only [e]
theorem rcut_sl {rows : List (List HV)} {t : TypeId} {lo hi : Option HV} : rcut P H t (.sl rows) lo hi = bindO (elemTI P t 3) fun e => bindO (boundV lo 0) fun l => bindO (boundV hi (rows.length : Int)) fun h => rv H (RowsLen rows e.2.2.size ∧ 0 ≤ l ∧ l ≤ h ∧ h ≤ (rows.length : Int)) (.sl ((rows.drop l.toNat).take (h.toNat - l.toNat))) := rfl
theorem rcut_hd {id o len : Nat} {t : TypeId} {lo hi : Option HV} : rcut P H t (.hd id o len) lo hi = bindO (elemTI P t 3) fun e => bindO (boundV lo 0) fun l => bindO (boundV hi (len : Int)) fun h => bindO (getO H id) fun ob =>
      rv H (o + len = ob.rows.length ∧ ob.sz = e.2.2.size ∧ 0 ≤ l ∧ l ≤ h ∧ h = (len : Int)) (.hd id (o + l.toNat) (len - l.toNat)) := rfl
theorem rlen_str {a : List UInt8} {t : TypeId} : rlen P H t (.v (str a)) = rv H (kindIs P t 4 = true) (.v (.int .i64 (a.length : Int))) := by
  have e2 : (⟨a.toArray⟩ : ByteArray).size = a.length := by simp [ByteArray.size]
  show rv H (kindIs P t 4 = true) (.v (.int .i64 ((⟨a.toArray⟩ : ByteArray).size : Int))) = _
  rw [e2]
theorem rlen_nil {t : TypeId} : rlen P H t (.v (.slice none 0 0)) = rv H (kindIs P t 3 = true) (.v (.int .i64 0)) := rfl
theorem rlen_sl {rows : List (List HV)} {t : TypeId} : rlen P H t (.sl rows) = rv H (kindIs P t 3 = true) (.v (.int .i64 (rows.length : Int))) := rfl
theorem rlen_hd {id o len : Nat} {t : TypeId} : rlen P H t (.hd id o len) = bindO (getO H id) fun ob => rv H (o + len = ob.rows.length ∧ kindIs P t 3 = true) (.v (.int .i64 (len : Int))) := rfl
theorem rload2_true {x : TI} {ob : HObj} {row : List HV} {id m i o : Nat} : rload2 x H ob row id m i o true = rv H (okTI x = true ∧ m = ob.rows.length ∧ o + x.size ≤ ob.sz) (mkV x ((row.drop o).take x.size)) := rfl
theorem rload2_false {x : TI} {ob : HObj} {row : List HV} {id m i o : Nat} : rload2 x H ob row id m i o false = bindO (if okTI x = true then some () else none) fun _ => rloadP x (gopens H id i o x.size) (.pt id m i o) := rfl
theorem rload1_pt {x : TI} {id m i o : Nat} : rload1 x H (.pt id m i o) = bindO (getO H id) fun ob => bindO ob.rows[i]? fun row => rload2 x H ob row id m i o (tvs ((row.drop o).take x.size)) := rfl
theorem rload1_fp {x : TI} {rows : List (List HV)} {i o : Nat} : rload1 x H (.fp rows i o) = bindO rows[i]? fun row => rv H (okTI x = true ∧ o + x.size ≤ row.length ∧ tvs ((row.drop o).take x.size) = true) (mkV x ((row.drop o).take x.size)) := rfl
theorem rloadP_pt {x : TI} {id m r' o : Nat} : rloadP x H (.pt id m r' o) = bindO (getO H id) fun ob => bindO ob.rows[r']? fun row => rv H (m = ob.rows.length ∧ o + x.size ≤ ob.sz ∧ tvs ((row.drop o).take x.size) = true) (mkV x ((row.drop o).take x.size)) := rfl
theorem rloadQ_pt {x : TI} {id m r' o : Nat} : rloadQ x H (.pt id m r' o) = bindO (getO H id) fun ob => bindO ob.rows[r']? fun row => rv H (okTI x = true ∧ m = ob.rows.length ∧ o + x.size ≤ ob.sz ∧ tvs ((row.drop o).take x.size) = true) (mkV x ((row.drop o).take x.size)) := rfl
theorem rloadQ_fp {x : TI} {rows : List (List HV)} {i o : Nat} : rloadQ x H (.fp rows i o) = bindO rows[i]? fun row => rv H (okTI x = true ∧ o + x.size ≤ row.length ∧ tvs ((row.drop o).take x.size) = true) (mkV x ((row.drop o).take x.size)) := rfl
theorem rstore_pt {t : TypeId} {id m r' o : Nat} {v : HV} : rstore P H t (.pt id m r' o) v = bindO (ti P t) fun x => bindO (getO H id) fun ob => bindO ob.rows[r']? fun row =>
      some (m = ob.rows.length ∧ (cellsH v).length = x.size ∧ (cellsH v).all c1 = true ∧ o + x.size ≤ ob.sz, .any, H.set id (some { ob with rows := ob.rows.set r' (row.take o ++ cellsH v ++ row.drop (o + x.size)) })) := rfl
theorem rmakeSlice_int {t : TypeId} {i j : IntKind} {x y : Int} : rmakeSlice P H t (.v (.int i x)) (.v (.int j y)) = bindO (elemTI P t 3) fun e => bindO (zcells e.2.2) fun cs =>
    some (0 ≤ x ∧ x ≤ y ∧ (e.2.2.bytes : Int) * y ≤ 281474976710656 ∧ y ≤ 9223372036854775807, .hd H.length 0 x.toNat, H ++ [some ⟨e.2.1, e.2.2.size, List.replicate x.toNat cs⟩]) := rfl
theorem rappend_nil {t : TypeId} {x : HV} : rappend P H t (.v (.slice none 0 0)) x = bindO (elemTI P t 3) fun e => bindO (srcRows H x) fun new =>
    some (e.2.2.size ≠ 0 ∧ (zcells e.2.2).isSome = true ∧ tvs new.flatten = true ∧ RowsLen new e.2.2.size ∧ new.length ≤ 140737488355328 ∧ new.length * e.2.2.bytes ≤ 140737488355328, .hd H.length 0 new.length, H ++ [some ⟨e.2.1, e.2.2.size, new⟩]) := rfl
theorem rappend_hd {t : TypeId} {id len : Nat} {x : HV} : rappend P H t (.hd id 0 len) x = bindO (elemTI P t 3) fun e => bindO (srcRows H x) fun new => bindO (getO H id) fun ob =>
    some (e.2.2.size ≠ 0 ∧ (zcells e.2.2).isSome = true ∧ tvs new.flatten = true ∧ RowsLen new e.2.2.size ∧ len = ob.rows.length ∧ ob.e = e.2.1 ∧ ob.sz = e.2.2.size ∧ len + new.length ≤ 140737488355328 ∧ (len + new.length) * e.2.2.bytes ≤ 140737488355328,
      .hd id 0 (len + new.length), H.set id (some { ob with rows := ob.rows ++ new })) := rfl
theorem srcRows_nil : srcRows H (.v (.slice none 0 0)) = some [] := rfl
theorem srcRows_sl {rows : List (List HV)} : srcRows H (.sl rows) = some rows := rfl
theorem srcRows_hd {id o len : Nat} : srcRows H (.hd id o len) = (getO H id).bind fun ob => if o + len = ob.rows.length then some (ob.rows.drop o) else none := by
  simp only [srcRows, getO]
  cases h : H[id]? with
  | none => rfl
  | some o' => cases o' <;> rfl

theorem binRes_int {op : BinOp} {t : TypeId} {c : Bool} {i : IntKind} {x y : Int} : binRes P op t c (.v (.int i x)) (.v (.int i y)) = intRes op i x y := by simp [binRes]
theorem binRes_bool {op : BinOp} {t : TypeId} {c : Bool} {x y : Bool} : binRes P op t c (.v (.bool x)) (.v (.bool y)) = if kindIs P t 7 = true then eqRes op (decide (x = y)) else none := rfl
theorem binRes_icnil {op : BinOp} {t u : TypeId} {c : Bool} {x : HV} : binRes P op t c (.ic u x) (.v .nilIface) = if kindIs P t 9 = true then eqRes op false else none := rfl
theorem binRes_nilnil {op : BinOp} {t : TypeId} {c : Bool} : binRes P op t c (.v .nilIface) (.v .nilIface) = if kindIs P t 9 = true ∧ c = true then eqRes op true else none := rfl
theorem ir_add {i : IntKind} {x y : Int} : intRes .add i x y = some (.int i (i.wrap (x + y))) := rfl
theorem ir_sub {i : IntKind} {x y : Int} : intRes .sub i x y = some (.int i (i.wrap (x - y))) := rfl
theorem ir_mul {i : IntKind} {x y : Int} : intRes .mul i x y = some (.int i (i.wrap (x * y))) := rfl
theorem ir_quo {i : IntKind} {x y : Int} : intRes .quo i x y = if y = 0 then none else some (.int i (i.wrap (x.tdiv y))) := rfl
theorem ir_rem {i : IntKind} {x y : Int} : intRes .rem i x y = if y = 0 then none else some (.int i (x.tmod y)) := rfl
theorem ir_eql {i : IntKind} {x y : Int} : intRes .eql i x y = some (.bool (decide (x = y))) := rfl
theorem ir_neq {i : IntKind} {x y : Int} : intRes .neq i x y = some (.bool (!decide (x = y))) := rfl
theorem ir_lss {i : IntKind} {x y : Int} : intRes .lss i x y = some (.bool (decide (x < y))) := rfl
theorem ir_leq {i : IntKind} {x y : Int} : intRes .leq i x y = some (.bool (decide (x ≤ y))) := rfl
theorem ir_gtr {i : IntKind} {x y : Int} : intRes .gtr i x y = some (.bool (decide (y < x))) := rfl
theorem ir_geq {i : IntKind} {x y : Int} : intRes .geq i x y = some (.bool (decide (y ≤ x))) := rfl
theorem er_eql {b : Bool} : eqRes .eql b = some (.bool b) := rfl
theorem er_neq {b : Bool} : eqRes .neq b = some (.bool (!b)) := rfl
theorem binRes_seql {t : TypeId} {c : Bool} {a b : List UInt8} : binRes P .eql t c (.v (str a)) (.v (str b)) = some (.bool (decide (a = b))) := rfl
theorem binRes_sneq {t : TypeId} {c : Bool} {a b : List UInt8} : binRes P .neq t c (.v (str a)) (.v (str b)) = some (.bool (!decide (a = b))) := rfl
theorem exR_sadd {t : TypeId} {c : Bool} {a b : List UInt8} : exR k (bindO (binRes P .add t c (.v (str a)) (.v (str b))) fun v => rv H True (.v v)) all d l r T = (a.length + b.length ≤ 9223372036854775807 ∧ k (.ops all l :: r) (updO T d (.v (str (a ++ b)))) H) := by
  have e1 : (⟨a.toArray⟩ : ByteArray).size = a.length := by simp [ByteArray.size]
  have e2 : (⟨b.toArray⟩ : ByteArray).size = b.length := by simp [ByteArray.size]
  have e3 : (⟨a.toArray⟩ : ByteArray) ++ (⟨b.toArray⟩ : ByteArray) = ⟨(a ++ b).toArray⟩ := by
    apply ByteArray.ext
    apply Array.ext'
    simp [ByteArray.data_append]
  have e4 : binRes P .add t c (.v (str a)) (.v (str b)) = if a.length + b.length ≤ 9223372036854775807 then some (str (a ++ b)) else none := by
    show (if (⟨a.toArray⟩ : ByteArray).size + (⟨b.toArray⟩ : ByteArray).size ≤ 9223372036854775807 then some (Value.string ((⟨a.toArray⟩ : ByteArray) ++ (⟨b.toArray⟩ : ByteArray))) else none) = _
    rw [e1, e2, e3]; rfl
  rw [e4]
  by_cases h : a.length + b.length ≤ 9223372036854775807
  · simp only [h, if_true, bindO_some, true_and]
    show (True ∧ _) = _
    simp
  · simp only [h, if_false, bindO_none, false_and]
    rfl

theorem endQ_ret {res : List Nat} {L : Nat} {Q : HV → Heap → Prop} : endQ res L Q .ret T H = endP L Q (packV L (retV res T) H) := rfl
theorem endQ_normal {res : List Nat} {L : Nat} {Q : HV → Heap → Prop} : endQ res L Q .normal T H = endP L Q (packV L (retV res T) H) := rfl
theorem endP_zero {Q : HV → Heap → Prop} {x : HV} {H : Heap} : endP 0 Q (x, H) = Q x [] := by simp [endP, nmH]
theorem retV_one {i : Nat} : retV [i] T = T i := rfl
theorem retV_nil : retV [] T = .tu [] := rfl
theorem retV_more {i j : Nat} {l : List Nat} : retV (i :: j :: l) T = .tu ((i :: j :: l).map T) := rfl

theorem callX_fn {fid : Nat} {args args' : List HV} {R : HV} {r : List Item} (n : Nat) (spec : HFn P fid args' R) (hargs : args.map (fz n H) = args') (hnz : nz R = true) (h : k (.ops all l :: r) (updO T d (nameV R H).1) (nameV R H).2) : callX k P fid H args all d l r T := by
  subst hargs
  refine ⟨_, HCalls.lend n spec (fun r hr => by rw [hr]; exact hnz), fun x H' hq _ => ?_⟩
  obtain ⟨rfl, rfl⟩ := hq
  exact h

theorem callX_lend {fid : Nat} {args args' : List HV} {Q : HV → Heap → Prop} {r : List Item} (n : Nat) (spec : HCalls P fid [] args' Q) (hargs : args.map (fz n H) = args') (hnz : ∀ x, Q x [] → nz x = true) (h : ∀ x, Q x [] → k (.ops all l :: r) (updO T d (nameV x H).1) (nameV x H).2) : callX k P fid H args all d l r T := by
  subst hargs
  refine ⟨_, HCalls.lend n spec hnz, fun x H' hq _ => ?_⟩
  obtain ⟨hq, rfl⟩ := hq
  exact h x hq

theorem cHV_int {i : IntKind} {z : Int} : cHV (.int i z) = .v (.int i z) := rfl
theorem cHV_bool {b : Bool} : cHV (.bool b) = .v (.bool b) := rfl
theorem cHV_string {a : List UInt8} : cHV (.string ⟨List.toArray a⟩) = .v (str a) := rfl
theorem cHV_nilslice : cHV (.slice none 0 0) = .v (.slice none 0 0) := rfl
theorem cHV_nilIface : cHV .nilIface = .v .nilIface := rfl
theorem cHV_nilFunc : cHV .nilFunc = .v .nilFunc := rfl
theorem cHV_agg {cs : List Value} : cHV (.agg (List.toArray cs)) = .ag (cs.map .v) := rfl
end

attribute [congr] exCallQ_congr exInv_congr exInvQ_congr exInv2_congr exInvQ2_congr exR_congr exRq_congr exB_congr exB2_congr exBq_congr exBq2_congr exC2_congr exCall_congr
attribute [go_sem high] upd_eq exB2_tt exB2_ff exB2_tf1 exB2_ft1 exBq2_tt exBq2_ff exBq2_tf1 exBq2_ft1 exC2_true exC2_false exR_rv1 exR_some1 exR_rv0 exR_some0 exRq_rv1 exB2_undef1 exBq2_undef1
attribute [go_sem] exCallQ_fn exInv_ic exInv2_some exInvQ_ic exInvQ2_some ropQ_max ropQ_min rmm_max rmm_min rconvB_true rconvB_false rconvA_str rconvA_int rconvA_hd rconvA_sl rconvA_nil rcutB_pt rcutB_str rcutB_hd rcutB_sl oneRow_one binRes_ag eqK_nil eqK_int eqK_str eqK_bool Kd_some Kd_none keepT_at Int.toNat_natCast Bool.not_eq_true' Bool.not_eq_false'
  exC2_bool exR_none exCall_fn exB_some exB2_bool1 updO_some updO_none upd_ne hev_tmp hev_func hev_const T0_zero T0_succ T0_nil
  rcutT_hd rcutT_sl rcutT_str
  endP_zero retV_one retV_nil retV_more packV packL List.forall_mem_cons decide_true decide_false decide_eq_true_eq decide_eq_false_iff_not
  cHV_int cHV_bool cHV_string cHV_nilslice cHV_nilIface cHV_nilFunc cHV_agg
  bindO_some bindO_none getO_zero getO_succ rbin riface rfieldAddr rload ralloc rbox rbuild rbuildSlice isC exRq_none exBq_some exBq2_bool1 ropQ_move ropQ_assign ropQ_pick ropQ_build ropQ_load ropQ_nilCheck ropQ_bin ropQ_un ropQ_conv ropQ_iface ropQ_slice ropQ_fieldAddr ropQ_field ropQ_indexAddr ropQ_index ropQ_extract ropQ_len rpick_true rpick_false run1_not run1_neg rextract_tu rconv_int rconv_str rconv_hd rconv_sl rsure_fp rsure_pt rsure_fn rsure_ic liveAt_fp liveAt_pt rfield_ag rindexAddr_sl rindexAddr_hd rindexAddr_pt rindexAddr_fp rindex_str rindex_ag bv_none bv_int rcut_str rcut_sl rcut_hd rlen_str rlen_nil rlen_sl rlen_hd rload2_true rload2_false rload1_pt rload1_fp rloadP_pt rloadQ_pt rloadQ_fp rstore_pt rmakeSlice_int rappend_nil rappend_hd srcRows_nil srcRows_sl srcRows_hd binRes_int binRes_bool binRes_icnil binRes_nilnil ir_add ir_sub ir_mul ir_quo ir_rem ir_eql ir_neq ir_lss ir_leq ir_gtr ir_geq er_eql er_neq binRes_seql binRes_sneq exR_sadd
  RowsLen_nil RowsLen_cons RowsLen_append PartsOk Option.bind_some Option.bind_none Nat.zero_add Nat.add_zero false_implies false_and and_false not_false_eq_true not_true_eq_false Option.isSome_some hfill places tvs tv nmR nmL nm nmH nz nzL nzR
  true_and and_true if_true if_false true_implies forall_const Option.map_some Option.map_none List.map_cons List.map_nil List.cons_append List.nil_append List.length_cons List.length_nil
  List.getElem?_cons_zero List.getElem?_cons_succ List.set_cons_zero List.set_cons_succ List.take_succ_cons List.drop_succ_cons List.take_zero List.drop_zero List.take_nil List.drop_nil List.headD_cons cellsH Bool.not_true Bool.not_false Bool.or_true Bool.or_false Bool.true_or Bool.false_or
  nameV nameL mkV moved okTI TI.agg
attribute [go_sem] fzo fzoL fzoR rbuildSliceF
attribute [go_sem ↓] exOq_buildSlice exOq_call exOq_invoke exO_invoke exO_max exO_min lappend_nil lappend_cons exOq_move exOq_assign exOq_pick exOq_build exOq_load exOq_nilCheck exOq_bin exOq_un exOq_conv exOq_iface exOq_func exOq_slice exOq_fieldAddr exOq_field exOq_indexAddr exOq_index exOq_extract exOq_builtin dstAt_zero dstAt_succ dropTo_nil dropTo_endB dropTo_code dropTo_ops dropTo_quiet ex_nil ex_endB ex_opsnil ex_op ex_opg ex_skip ex_label ex_seq ex_region ex_cond ex_block ex_exit ex_goto ex_ret ex_loop ex_scope ex_range ex_draw exO_call exO_move exO_assign exO_pick exO_alloc exO_box exO_build exO_buildSlice exO_load exO_store exO_nilCheck exO_bin exO_un exO_conv exO_iface exO_func exO_makeSlice exO_slice1 exO_slice2 exO_slice3 exO_slice4 exO_fieldAddr exO_field exO_indexAddr exO_index exO_extract exO_len exO_append ex_quietnil ex_quiet1 ex_quietg Kx_normal Kx_exit Kx_goto Kx_ret fin_normal fin_exit fin_goto fin_ret endQ_ret endQ_normal
end Go.Proofs.YtcpefnjofekibaaDoor
