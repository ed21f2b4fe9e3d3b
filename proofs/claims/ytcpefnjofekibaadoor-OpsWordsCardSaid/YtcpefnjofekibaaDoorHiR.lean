/- Part R of the engine: code run as a list of what is still to be done. -/
import Derived.Test.YtcpefnjofekibaaDoorHiQ
import Derived.OrdersIn
namespace Go.Proofs.YtcpefnjofekibaaDoor
open Go.RowKit
set_option linter.unusedVariables false
set_option linter.unusedSimpArgs false

/-- What is still to be done. -/
inductive Item where
  | code (c : Code)
  | endB (l : Nat)
  | ops (all l : List Oper)
  | quiet (all l : List Oper)

/-- Out of a block. -/
def dropTo (l : Nat) : List Item → Option (List Item)
  | [] => none
  | .endB l' :: r => if l = l' then some r else dropTo l r
  | _ :: r => dropTo l r

abbrev KS := (Nat → HV) → Heap → Prop

/-- How a code that stands for itself goes on. -/
def Kx (k : List Item → KS) (Q : Exit → KS) (r : List Item) : Exit → KS
  | .normal => k r
  | .exit l => match dropTo l r with | some r' => k r' | none => Q (.exit l)
  | e => Q e

def exR (k : List Item → KS) (res : Res) (all : List Oper) (d : Option Nat) (l : List Oper) (r : List Item) (T : Nat → HV) : Prop :=
  onR res fun x H' => k (.ops all l :: r) (updO T d x) H'

/-- A call, to be opened by the callee's contract. -/
def callX (k : List Item → KS) (P : Program) (fid : Nat) (H : Heap) (args : List HV) (all : List Oper) (d : Option Nat) (l : List Oper) (r : List Item) (T : Nat → HV) : Prop :=
  ∃ Q, HCalls P fid H args Q ∧ ∀ x H', Q x H' → H'.length = H.length → k (.ops all l :: r) (updO T d (nameV x H').1) (nameV x H').2

/-- A call of yield, to be opened by what is known of it. -/
def yieldX (k : List Item → KS) (P : Program) (id : Nat) (H : Heap) (args : List HV) (all : List Oper) (d : Option Nat) (l : List Oper) (r : List Item) (T : Nat → HV) : Prop :=
  ∃ Kb, HYield P id H args Kb ∧ ∀ b H', Kb b H' → H'.length = H.length → k (.ops all l :: r) (updO T d (.v (.bool b))) H'

def exCall (k : List Item → KS) (P : Program) (f : HV) (H : Heap) (args : List HV) (all : List Oper) (d : Option Nat) (l : List Oper) (r : List Item) (T : Nat → HV) : Prop :=
  match f with
  | .fn fid caps => callX k P fid H (args ++ caps) all d l r T
  | .yl id => yieldX k P id H args all d l r T
  | _ => False

def exInv2 (k : List Item → KS) (P : Program) (f : Option Nat) (H : Heap) (args : List HV) (all : List Oper) (d : Option Nat) (l : List Oper) (r : List Item) (T : Nat → HV) : Prop :=
  match f with
  | some fid => callX k P fid H args all d l r T
  | none => False

/-- A method of a value in an interface. -/
def exInv (k : List Item → KS) (P : Program) (rv : HV) (name : String) (H : Heap) (args : List HV) (all : List Oper) (d : Option Nat) (l : List Oper) (r : List Item) (T : Nat → HV) : Prop :=
  match rv with
  | .ic t x => exInv2 k P (methodFn P t name) H (x :: args) all d l r T
  | _ => False

def exO (k : List Item → KS) (P : Program) (all : List Oper) (d : Option Nat) (op : Op) (l : List Oper) (r : List Item) (T : Nat → HV) (H : Heap) : Prop :=
  match op with
  | .call { callee := .value f, args := args, argTypes := _ } => exCall k P (hev T f) H (args.toList.map (hev T)) all d l r T
  | .call { callee := .invoke rv name, args := args, argTypes := _ } => exInv k P (hev T rv) name H (args.toList.map (hev T)) all d l r T
  | op => exR k (rop P T H op) all d l r T

def dstAt (all : List Oper) (j : Nat) : Option Nat := (all[j]?).bind (·.dst)

def exB2 (k : List Item → KS) (P : Program) (v : HV) (t : Nat) (b : Bool) (all : List Oper) (d : Option Nat) (op : Op) (l : List Oper) (r : List Item) (T : Nat → HV) (H : Heap) : Prop :=
  match v with
  | .v (.bool c) => (c = b → exO k P all d op l r T H) ∧ (c = (!b) → k (.ops all l :: r) (updO T d (.v undef)) H)
  | .v (.tuple _) => k (.ops all l :: r) (updO T d (.v undef)) H
  | _ => False

def exB (k : List Item → KS) (P : Program) (t : Option Nat) (b : Bool) (all : List Oper) (d : Option Nat) (op : Op) (l : List Oper) (r : List Item) (T : Nat → HV) (H : Heap) : Prop :=
  match t with
  | some t => exB2 k P (T t) t b all d op l r T H
  | none => False

def exG (k : List Item → KS) (P : Program) (all : List Oper) (o : Oper) (l : List Oper) (r : List Item) (T : Nat → HV) (H : Heap) : Prop :=
  match o.guard with
  | none => exO k P all o.dst o.op l r T H
  | some (j, b) => exB k P (dstAt all j) b all o.dst o.op l r T H

def exRq (k : List Item → KS) (res : Res) (all : List Oper) (d : Option Nat) (l : List Oper) (r : List Item) (T : Nat → HV) (H : Heap) : Prop :=
  onR res fun x _ => k (.quiet all l :: r) (updO T d x) H

/-- A call of which all is known that comes of it. -/
abbrev HFn (P : Program) (f : FuncId) (args : List HV) (R : HV) : Prop := HCalls P f [] args (fun r _ => r = R)

/-- How arguments stand to what a callee sees of them: lent, and what comes back holds none of them; or without names, as they are. -/
def LendOk (n : Nat) (H : Heap) (args args' : List HV) (R : HV) : Prop := (args.map (fz n H) = args' ∧ nz R = true) ∨ (args = args' ∧ nmL 0 args = true)

/-- A call in a region that draws its order: what it gives is shut for good. -/
def callQ (k : List Item → KS) (P : Program) (fid : Nat) (H : Heap) (args : List HV) (all : List Oper) (d : Option Nat) (l : List Oper) (r : List Item) (T : Nat → HV) : Prop :=
  ∃ n R args', HFn P fid args' R ∧ LendOk n H args args' R ∧ k (.quiet all l :: r) (updO T d (fzo R)) H

/-- A slice built in such a region: shut for good. -/
def rbuildSliceF (P : Program) (T : Nat → HV) (H : Heap) (t : TypeId) (len : Nat) (parts : List (Nat × Operand)) : Res := bindO (elemTI P t 3) fun e =>
  rv H (len = parts.length ∧ seqParts 0 parts = true ∧ e.2.2.size ≠ 0 ∧ len * e.2.2.size ≤ 16777216 ∧ (zcells e.2.2).isSome = true ∧ PartsOk T e.2.2.size parts) (.sl (parts.map fun p => fzoL (cellsH (hev T p.2))))

def exCallQ (k : List Item → KS) (P : Program) (f : HV) (H : Heap) (args : List HV) (all : List Oper) (d : Option Nat) (l : List Oper) (r : List Item) (T : Nat → HV) : Prop :=
  match f with
  | .fn fid caps => callQ k P fid H (args ++ caps) all d l r T
  | _ => False

def exInvQ2 (k : List Item → KS) (P : Program) (f : Option Nat) (H : Heap) (args : List HV) (all : List Oper) (d : Option Nat) (l : List Oper) (r : List Item) (T : Nat → HV) : Prop :=
  match f with
  | some fid => callQ k P fid H args all d l r T
  | none => False

def exInvQ (k : List Item → KS) (P : Program) (rv : HV) (name : String) (H : Heap) (args : List HV) (all : List Oper) (d : Option Nat) (l : List Oper) (r : List Item) (T : Nat → HV) : Prop :=
  match rv with
  | .ic t x => exInvQ2 k P (methodFn P t name) H (x :: args) all d l r T
  | _ => False

def exOq (k : List Item → KS) (P : Program) (all : List Oper) (d : Option Nat) (op : Op) (l : List Oper) (r : List Item) (T : Nat → HV) (H : Heap) : Prop :=
  match op with
  | .call { callee := .value f, args := args, argTypes := _ } => exCallQ k P (hev T f) H (args.toList.map (hev T)) all d l r T
  | .call { callee := .invoke rv name, args := args, argTypes := _ } => exInvQ k P (hev T rv) name H (args.toList.map (hev T)) all d l r T
  | .buildSlice t len parts => exRq k (rbuildSliceF P T H t len parts.toList) all d l r T H
  | op => exRq k (ropQ P T H op) all d l r T H

def exBq2 (k : List Item → KS) (P : Program) (v : HV) (t : Nat) (b : Bool) (all : List Oper) (d : Option Nat) (op : Op) (l : List Oper) (r : List Item) (T : Nat → HV) (H : Heap) : Prop :=
  match v with
  | .v (.bool c) => (c = b → exOq k P all d op l r T H) ∧ (c = (!b) → k (.quiet all l :: r) (updO T d (.v undef)) H)
  | .v (.tuple _) => k (.quiet all l :: r) (updO T d (.v undef)) H
  | _ => False

def exBq (k : List Item → KS) (P : Program) (t : Option Nat) (b : Bool) (all : List Oper) (d : Option Nat) (op : Op) (l : List Oper) (r : List Item) (T : Nat → HV) (H : Heap) : Prop :=
  match t with
  | some t => exBq2 k P (T t) t b all d op l r T H
  | none => False

def exGq (k : List Item → KS) (P : Program) (all : List Oper) (o : Oper) (l : List Oper) (r : List Item) (T : Nat → HV) (H : Heap) : Prop :=
  match o.guard with
  | none => exOq k P all o.dst o.op l r T H
  | some (j, b) => exBq k P (dstAt all j) b all o.dst o.op l r T H

def exC2 (k : List Item → KS) (v : HV) (x y : Code) (r : List Item) (T : Nat → HV) (H : Heap) : Prop :=
  match v with
  | .v (.bool c) => (c = true → k (.code x :: r) T H) ∧ (c = false → k (.code y :: r) T H)
  | _ => False

/-- The run; n: how much there may be to do. -/
def ex (P : Program) (N L : Nat) (Q : Exit → KS) : Nat → List Item → KS
  | 0, _ => fun _ _ => False
  | _ + 1, [] => Q .normal
  | n + 1, .endB _ :: r => ex P N L Q n r
  | n + 1, .ops _ [] :: r => ex P N L Q n r
  | n + 1, .ops all (o :: l) :: r => exG (ex P N L Q n) P all o l r
  | n + 1, .quiet _ [] :: r => ex P N L Q n r
  | n + 1, .quiet all (o :: l) :: r => exGq (ex P N L Q n) P all o l r
  | n + 1, .code c :: r =>
    match c with
    | .skip => ex P N L Q n r
    | .label _ => ex P N L Q n r
    | .seq x y => ex P N L Q n (.code x :: .code y :: r)
    | .region _ ops false => ex P N L Q n (.ops ops.toList ops.toList :: r)
    | .cond c x y => fun T H => exC2 (ex P N L Q n) (hev T c) x y r T H
    | .block l c => ex P N L Q n (.code c :: .endB l :: r)
    | .exit l => Kx (ex P N L Q n) Q r (.exit l)
    | .goto l => Q (.goto l)
    | .ret => Q .ret
    | c => fun T H => HW P N L c (Kx (ex P N L Q n) Q r) T H

/-- The code's operations name no temporary that there is not, and defer nothing. -/
def codeOk (N : Nat) : Code → Bool
  | .region _ ops false => ops.toList.all fun o => operOk N o && noDefer o
  | .seq x y => codeOk N x && codeOk N y
  | .cond c x y => opdOk N c && codeOk N x && codeOk N y
  | .block _ c => codeOk N c
  | _ => true

def itemOk (N : Nat) : Item → Bool
  | .code c => codeOk N c
  | .endB _ => true
  | .ops all l => (all.all fun o => operOk N o && noDefer o) && l.all fun o => operOk N o && noDefer o
  | .quiet _ _ => false

/-- What a list of items is to the machine. -/
def M (F : Fence) (n : Nat) (P : Program) (Φ : Exit → Act → World → Prop) : List Item → Exit → Act → World → Prop
  | [], e, a, w => Φ e a w
  | .endB l :: r, e, a, w => match e with
    | .normal => M F n P Φ r .normal a w
    | .exit l' => if l' = l then M F n P Φ r .normal a w else M F n P Φ r (.exit l') a w
    | e => M F n P Φ r e a w
  | .code c :: r, e, a, w => match e with
    | .normal => c.wpIn F n P (M F n P Φ r) a w
    | e => M F n P Φ r e a w
  | .ops all l :: r, e, a, w => match e with
    | .normal => wpListIn F n P all.toArray (M F n P Φ r) l a w
    | e => M F n P Φ r e a w
  | .quiet all l :: r, e, a, w => match e with
    | .normal => False
    | e => M F n P Φ r e a w

section
variable {F : Fence} {n : Nat} {P : Program} {Φ : Exit → Act → World → Prop}

theorem M_exit (l : Nat) : ∀ (r : List Item) (a : Act) (w : World), (match dropTo l r with | some r' => M F n P Φ r' .normal a w | none => Φ (.exit l) a w) → M F n P Φ r (.exit l) a w
  | [], a, w, h => h
  | .endB l' :: r, a, w, h => by
    simp only [dropTo] at h
    simp only [M]
    split at h
    · rename_i e; split at e
      · rename_i e'; cases e; rw [if_pos e']; exact h
      · rename_i e'; rw [if_neg e']; exact M_exit l r a w (by rw [e]; exact h)
    · rename_i e; split at e
      · cases e
      · rename_i e'; rw [if_neg e']; exact M_exit l r a w (by rw [e]; exact h)
  | .code c :: r, a, w, h => by simp only [dropTo] at h; simp only [M]; exact M_exit l r a w h
  | .ops all x :: r, a, w, h => by simp only [dropTo] at h; simp only [M]; exact M_exit l r a w h
  | .quiet all x :: r, a, w, h => by simp only [dropTo] at h; simp only [M]; exact M_exit l r a w h

theorem M_other {e : Exit} (h1 : e ≠ .normal) (h2 : ∀ l, e ≠ .exit l) : ∀ (r : List Item) (a : Act) (w : World), Φ e a w → M F n P Φ r e a w
  | [], a, w, h => h
  | .endB l' :: r, a, w, h => by
    have := M_other h1 h2 r a w h
    cases e <;> first | exact absurd rfl h1 | exact absurd rfl (h2 _) | exact this
  | .code c :: r, a, w, h => by
    have := M_other h1 h2 r a w h
    cases e <;> first | exact absurd rfl h1 | exact absurd rfl (h2 _) | exact this
  | .ops all x :: r, a, w, h => by
    have := M_other h1 h2 r a w h
    cases e <;> first | exact absurd rfl h1 | exact absurd rfl (h2 _) | exact this
  | .quiet all x :: r, a, w, h => by
    have := M_other h1 h2 r a w h
    cases e <;> first | exact absurd rfl h1 | exact absurd rfl (h2 _) | exact this
end

theorem upd_self {T : Nat → HV} {t : Nat} {x : HV} (h : T t = x) : upd T t x = T := by
  funext i
  unfold upd
  split
  · rename_i e; rw [e, h]
  · rfl

theorem dstAt_gval {all : List Oper} {j t : Nat} (h : dstAt all j = some t) (T : Nat → HV) : gval all T j = T t := by
  unfold dstAt at h
  unfold gval
  rw [h]

theorem noDefer_spec {o : Oper} (h : noDefer o = true) : ∀ c, o.op ≠ .defer c := by
  intro c hc
  unfold noDefer at h
  rw [hc] at h
  cases h

theorem St.drop {N B : Nat} {Z : Nat → Prop} {G : List (Option OG)} {FP : Nat → List Nat} {ds : List Nat} {T : Nat → HV} {H : Heap} {a : Act} {w : World} (h : St N B Z G FP ds T H a w) (d : Option Nat) (hd : ∀ i, d = some i → i < N) : St N B Z G FP ds (updO T d (.v undef)) H (a.put d undef) w :=
  h.put (by simp [RV]) d hd

theorem dropTo_ok {N l : Nat} : ∀ (r r' : List Item), r.all (itemOk N) = true → dropTo l r = some r' → r'.all (itemOk N) = true
  | [], r', _, h => by simp [dropTo] at h
  | .endB l' :: r, r', hok, h => by
    simp only [dropTo] at h
    simp only [List.all_cons, Bool.and_eq_true] at hok
    split at h
    · cases h; exact hok.2
    · exact dropTo_ok r r' hok.2 h
  | .code c :: r, r', hok, h => by
    simp only [dropTo] at h
    simp only [List.all_cons, Bool.and_eq_true] at hok
    exact dropTo_ok r r' hok.2 h
  | .ops all x :: r, r', hok, h => by
    simp only [dropTo] at h
    simp only [List.all_cons, Bool.and_eq_true] at hok
    exact dropTo_ok r r' hok.2 h
  | .quiet all x :: r, r', hok, h => by
    simp only [dropTo] at h
    simp only [List.all_cons, Bool.and_eq_true] at hok
    exact dropTo_ok r r' hok.2 h

section
variable {P : Program} {N L : Nat} {Q : Exit → KS}

/-- The final statement at the machine, as of a state once met. -/
def Fin (Q : Exit → KS) (N L B : Nat) (Z0 : Nat → Prop) (G0 : List (Option OG)) (FP0 : Nat → List Nat) (w0 : World) : Exit → Act → World → Prop :=
  fun e a' w' => ∃ T' H' Z' G' FP' ds', Q e T' H' ∧ St N B Z' G' FP' ds' T' H' a' w' ∧ GLt L G0 G' ∧ Evo Z0 FP0 w0 Z' FP' w'

theorem ex_ops {k : List Item → KS} {all l : List Oper} {o : Oper} {r : List Item} {T : Nat → HV} {H : Heap} {ro : Option Nat} {m B : Nat} {Φ : Exit → Act → World → Prop} {Z0 : Nat → Prop} {G0 : List (Option OG)} {FP0 : Nat → List Nat} {w0 : World}
    (hall : (all.all fun o => operOk N o && noDefer o) = true) (ho : (operOk N o && noDefer o) = true)
    (ih : ∀ T H Z G FP ds a w, k (.ops all l :: r) T H → Bo ro B FP w → St N B Z G FP ds T H a w → GLt L G0 G → Evo Z0 FP0 w0 Z FP w → M (Wd ro) m P Φ (.ops all l :: r) .normal a w)
    {Z : Nat → Prop} {G : List (Option OG)} {FP : Nat → List Nat} {ds : List Nat} {a : Act} {w : World} (h : exG k P all o l r T H) (hB : Bo ro B FP w) (hs : St N B Z G FP ds T H a w) (hG : GLt L G0 G) (hE : Evo Z0 FP0 w0 Z FP w) :
    M (Wd ro) m P Φ (.ops all (o :: l) :: r) .normal a w := by
  simp only [Bool.and_eq_true] at ho
  have hnd := noDefer_spec ho.2
  have hdst : ∀ i, o.dst = some i → i < N := fun i hi => by
    have := ho.1; simp only [operOk, dstOk, hi, Bool.and_eq_true, decide_eq_true_eq] at this; exact this.1
  -- the operation itself
  have main : ∀ T, exO k P all o.dst o.op l r T H → St N B Z G FP ds T H a w → o.wpIn (Wd ro) m P a w (wpListIn (Wd ro) m P all.toArray (M (Wd ro) m P Φ r) l) (M (Wd ro) m P Φ r) := by
    intro T h hs
    have fin : ∀ {K : KS}, HO P N L o T H K → (∀ T' H', K T' H' → k (.ops all l :: r) T' H') → o.wpIn (Wd ro) m P a w (wpListIn (Wd ro) m P all.toArray (M (Wd ro) m P Φ r) l) (M (Wd ro) m P Φ r) := by
      intro K hO hK
      refine hO ro m B Z G FP ds a w hB hG.len hs _ _ ?_
      rintro a' w' ⟨T', H', Z', G', FP', hKT, hs', hG', hE'⟩
      exact ih T' H' Z' G' FP' ds a' w' (hK _ _ hKT) (hB.evo hE') hs' (hG.trans hG') (hE.trans hE')
    unfold exO at h
    split at h
    · rename_i f args tys hop
      unfold exCall at h
      split at h
      · rename_i fid caps hf
        obtain ⟨Q', hc, hk⟩ := h
        exact fin (HO_call (K := k (.ops all l :: r)) hop ho.1 hf hc hk) (fun _ _ h => h)
      · rename_i id hf
        obtain ⟨Kb, hc, hk⟩ := h
        exact fin (HO_yield (K := k (.ops all l :: r)) hop ho.1 hf hc hk) (fun _ _ h => h)
      · exact h.elim
    · rename_i rv name args tys hop
      unfold exInv at h
      split at h
      · rename_i t x hf
        unfold exInv2 at h
        split at h
        · rename_i fid hm
          obtain ⟨Q', hc, hk⟩ := h
          exact fin (HO_invoke (K := k (.ops all l :: r)) hop ho.1 hf hm hc hk) (fun _ _ h => h)
        · exact h.elim
      · exact h.elim
    · exact fin (HO_of_HR (K := k (.ops all l :: r)) hnd hdst (HR_rop ho.1 h)) (fun _ _ h => h)
  simp only [M]
  unfold exG at h
  split at h
  · rename_i hg
    exact wpListIn_plain hg fun K' hK' => by
      have := main T h hs
      exact Oper.wpIn_mono (fun a w h => hK' a w h) this
  · rename_i j b hg
    unfold exB at h
    split at h
    · rename_i t ht
      unfold exB2 at h
      split at h
      · rename_i c hv
        have hy : yielded all.toArray a.tmps j = some c := by
          refine hs.yields ?_ (by rw [dstAt_gval ht]; exact hv)
          rw [List.all_eq_true]
          intro x hx
          have := List.all_eq_true.1 hall x hx
          simp only [Bool.and_eq_true, operOk] at this
          exact this.1.1
        have hw : Region.wanted o (yielded all.toArray a.tmps) = (c == b) := by
          simp only [Region.wanted, hg, hy]
          cases c <;> cases b <;> rfl
        by_cases hcb : c = b
        · have h1 := h.1 hcb
          simp only [wpListIn, hw]
          rw [if_pos (by simp [hcb])]
          exact main T h1 hs
        · have hcb' : c = (!b) := by cases c <;> cases b <;> simp_all
          have h1 := h.2 hcb'
          simp only [wpListIn, hw]
          rw [if_neg (by simp [hcb])]
          exact ⟨fun _ _ => trivial, ih _ _ Z G FP ds _ w h1 hB (hs.drop o.dst hdst) hG hE⟩
      · rename_i ts hv
        have hy : yielded all.toArray a.tmps j = none := by
          refine hs.yieldsNo ?_ (by rw [dstAt_gval ht]; exact hv)
          rw [List.all_eq_true]
          intro x hx
          have := List.all_eq_true.1 hall x hx
          simp only [Bool.and_eq_true, operOk] at this
          exact this.1.1
        have hw : Region.wanted o (yielded all.toArray a.tmps) = false := by
          simp only [Region.wanted, hg, hy]
          cases b <;> rfl
        simp only [wpListIn, hw]
        exact ⟨fun _ _ => trivial, ih _ _ Z G FP ds _ w h hB (hs.drop o.dst hdst) hG hE⟩
      · exact h.elim
    · exact h.elim

/-- THE RUN IS SOUND. -/
theorem ex_run : ∀ (n : Nat) (r : List Item) (T : Nat → HV) (H : Heap), ex P N L Q n r T H → r.all (itemOk N) = true → ∀ (ro : Option Nat) (m B : Nat) (Z0 : Nat → Prop) (G0 : List (Option OG)) (FP0 : Nat → List Nat) (w0 : World) (Z : Nat → Prop) (G : List (Option OG)) (FP : Nat → List Nat) (ds : List Nat) (a : Act) (w : World),
    Bo ro B FP w → St N B Z G FP ds T H a w → GLt L G0 G → Evo Z0 FP0 w0 Z FP w → M (Wd ro) m P (Fin Q N L B Z0 G0 FP0 w0) r .normal a w
  | 0, r, T, H, h, _ => h.elim
  | n + 1, [], T, H, h, hok => fun ro m B Z0 G0 FP0 w0 Z G FP ds a w hB hs hG hE => ⟨T, H, Z, G, FP, ds, h, hs, hG, hE⟩
  | n + 1, .endB l :: r, T, H, h, hok => fun ro m B Z0 G0 FP0 w0 Z G FP ds a w hB hs hG hE => by
    simp only [List.all_cons, Bool.and_eq_true] at hok
    simp only [M]
    exact ex_run n r T H h hok.2 ro m B Z0 G0 FP0 w0 Z G FP ds a w hB hs hG hE
  | n + 1, .ops all [] :: r, T, H, h, hok => fun ro m B Z0 G0 FP0 w0 Z G FP ds a w hB hs hG hE => by
    simp only [List.all_cons, Bool.and_eq_true] at hok
    simp only [M, wpListIn]
    exact ex_run n r T H h hok.2 ro m B Z0 G0 FP0 w0 Z G FP ds a w hB hs hG hE
  | n + 1, .ops all (o :: l) :: r, T, H, h, hok => fun ro m B Z0 G0 FP0 w0 Z G FP ds a w hB hs hG hE => by
    simp only [List.all_cons, Bool.and_eq_true] at hok
    obtain ⟨hio, hr⟩ := hok
    simp only [itemOk, Bool.and_eq_true, List.all_cons] at hio
    refine ex_ops hio.1 (by simp only [Bool.and_eq_true]; exact hio.2.1) ?_ h hB hs hG hE
    intro T' H' Z' G' FP' ds' a' w' hk hB' hs' hG' hE'
    exact ex_run n _ T' H' hk (by simp only [List.all_cons, Bool.and_eq_true, itemOk]; exact ⟨⟨hio.1, hio.2.2⟩, hr⟩) ro m B Z0 G0 FP0 w0 Z' G' FP' ds' a' w' hB' hs' hG' hE'
  | n + 1, .quiet all [] :: r, T, H, h, hok => by simp [itemOk] at hok
  | n + 1, .quiet all (o :: l) :: r, T, H, h, hok => by simp [itemOk] at hok
  | n + 1, .code c :: r, T, H, h, hok => fun ro m B Z0 G0 FP0 w0 Z G FP ds a w hB hs hG hE => by
    simp only [List.all_cons, Bool.and_eq_true] at hok
    obtain ⟨hc, hr⟩ := hok
    simp only [itemOk] at hc
    simp only [M]
    have ih := ex_run n
    have out : ∀ (e : Exit) (T' : Nat → HV) (H' : Heap) (Z' : Nat → Prop) (G' : List (Option OG)) (FP' : Nat → List Nat) (ds' : List Nat) (a' : Act) (w' : World), Kx (ex P N L Q n) Q r e T' H' → Bo ro B FP' w' → St N B Z' G' FP' ds' T' H' a' w' → GLt L G0 G' → Evo Z0 FP0 w0 Z' FP' w' → M (Wd ro) m P (Fin Q N L B Z0 G0 FP0 w0) r e a' w' := by
      intro e T' H' Z' G' FP' ds' a' w' hk hB' hs' hG' hE'
      cases e with
      | normal => exact ih r T' H' hk hr ro m B Z0 G0 FP0 w0 Z' G' FP' ds' a' w' hB' hs' hG' hE'
      | exit l =>
        refine M_exit l r a' w' ?_
        simp only [Kx] at hk
        split at hk
        · rename_i r' hd
          exact ih r' T' H' (by rw [hd] at hk; exact hk) (dropTo_ok r r' hr hd) ro m B Z0 G0 FP0 w0 Z' G' FP' ds' a' w' hB' hs' hG' hE'
        · rename_i hd
          exact ⟨T', H', Z', G', FP', ds', by rw [hd] at hk; exact hk, hs', hG', hE'⟩
      | goto l => exact M_other (by simp) (by simp) r a' w' ⟨T', H', Z', G', FP', ds', hk, hs', hG', hE'⟩
      | ret => exact M_other (by simp) (by simp) r a' w' ⟨T', H', Z', G', FP', ds', hk, hs', hG', hE'⟩
      | panic ch => exact M_other (by simp) (by simp) r a' w' ⟨T', H', Z', G', FP', ds', hk, hs', hG', hE'⟩
      | outgrown => exact M_other (by simp) (by simp) r a' w' ⟨T', H', Z', G', FP', ds', hk, hs', hG', hE'⟩
    have stuck : HW P N L c (Kx (ex P N L Q n) Q r) T H → c.wpIn (Wd ro) m P (M (Wd ro) m P (Fin Q N L B Z0 G0 FP0 w0) r) a w := by
      intro hw
      refine wpIn_mono (hw ro m B Z G FP ds a w hB hG.len hs) ?_
      rintro e a' w' ⟨T', H', Z', G', FP', ds', k1, k2, k3, k4⟩
      exact out e T' H' Z' G' FP' ds' a' w' k1 (hB.evo k4) k2 (hG.trans k3) (hE.trans k4)
    cases c with
    | skip => exact wpIn_skip (ih r T H h hr ro m B Z0 G0 FP0 w0 Z G FP ds a w hB hs hG hE)
    | label l => exact wpIn_label (ih r T H h hr ro m B Z0 G0 FP0 w0 Z G FP ds a w hB hs hG hE)
    | seq x y =>
      simp only [codeOk, Bool.and_eq_true] at hc
      have := ih (.code x :: .code y :: r) T H h (by simp only [List.all_cons, Bool.and_eq_true, itemOk]; exact ⟨hc.1, hc.2, hr⟩) ro m B Z0 G0 FP0 w0 Z G FP ds a w hB hs hG hE
      simp only [M] at this
      refine wpIn_seq (wpIn_mono this ?_)
      intro e a' w' he
      cases e <;> exact he
    | region id ops draw =>
      cases draw with
      | true => exact stuck h
      | false =>
        simp only [codeOk] at hc
        have := ih (.ops ops.toList ops.toList :: r) T H h (by simp only [List.all_cons, Bool.and_eq_true, itemOk]; exact ⟨⟨hc, hc⟩, hr⟩) ro m B Z0 G0 FP0 w0 Z G FP ds a w hB hs hG hE
        simp only [M] at this
        exact wpIn_region_list (by simpa using this)
    | cond c x y =>
      simp only [codeOk, Bool.and_eq_true] at hc
      have h' : exC2 (ex P N L Q n) (hev T c) x y r T H := h
      unfold exC2 at h'
      split at h'
      · rename_i b hv
        have he := hs.cond hc.1.1 hv
        cases b with
        | true =>
          have := ih (.code x :: r) T H (h'.1 rfl) (by simp only [List.all_cons, Bool.and_eq_true, itemOk]; exact ⟨hc.1.2, hr⟩) ro m B Z0 G0 FP0 w0 Z G FP ds a w hB hs hG hE
          exact wpIn_cond he this
        | false =>
          have := ih (.code y :: r) T H (h'.2 rfl) (by simp only [List.all_cons, Bool.and_eq_true, itemOk]; exact ⟨hc.2, hr⟩) ro m B Z0 G0 FP0 w0 Z G FP ds a w hB hs hG hE
          exact wpIn_cond he this
      · exact h'.elim
    | block l c =>
      simp only [codeOk] at hc
      have := ih (.code c :: .endB l :: r) T H h (by simp only [List.all_cons, Bool.and_eq_true, itemOk]; exact ⟨hc, trivial, hr⟩) ro m B Z0 G0 FP0 w0 Z G FP ds a w hB hs hG hE
      simp only [M] at this
      refine wpIn_block (wpIn_mono this ?_)
      intro e a' w' he
      cases e <;> exact he
    | exit l => exact wpIn_exit (out (.exit l) T H Z G FP ds a w h hB hs hG hE)
    | goto l => exact wpIn_goto (M_other (by simp) (by simp) r a w ⟨T, H, Z, G, FP, ds, h, hs, hG, hE⟩)
    | ret => exact wpIn_ret (M_other (by simp) (by simp) r a w ⟨T, H, Z, G, FP, ds, h, hs, hG, hE⟩)
    | loop c => exact stuck h
    | rangeFunc f ps as c => exact stuck h
    | scope c => exact stuck h
    | refuse u => exact stuck h

/-- Code, by the run. -/
theorem HW.run {c : Code} {T : Nat → HV} {H : Heap} (n : Nat) (hok : codeOk N c = true) (h : ex P N L Q n [.code c] T H) : HW P N L c Q T H := by
  intro ro m B Z G FP ds a w hB hL hs
  have := ex_run n [.code c] T H h (by simp [itemOk, hok]) ro m B Z G FP w Z G FP ds a w hB hs (GLt.refl hL) (Evo.refl _ _ _)
  simp only [M] at this
  exact this

end
end Go.Proofs.YtcpefnjofekibaaDoor
