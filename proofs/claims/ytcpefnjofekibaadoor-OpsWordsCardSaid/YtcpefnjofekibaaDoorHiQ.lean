/- Part Q of the engine: the run: what an operation gives, reckoned; code as a list of what is still to be done. -/
import Derived.Test.YtcpefnjofekibaaDoorHiY
namespace Go.Proofs.YtcpefnjofekibaaDoor
open Go.RowKit
set_option linter.unusedVariables false
set_option linter.unusedSimpArgs false

/-- What an operation gives: what must hold, its value, the objects behind it. -/
abbrev Res := Option (Prop × HV × Heap)

def onR (r : Res) (K : KT) : Prop :=
  match r with
  | some (p, x, H) => p ∧ K x H
  | none => False

def bindO {α : Type} (o : Option α) (f : α → Res) : Res :=
  match o with
  | some a => f a
  | none => none
theorem bindO_some {α : Type} (a : α) (f : α → Res) : bindO (some a) f = f a := rfl
theorem bindO_none {α : Type} (f : α → Res) : bindO none f = none := rfl

def getO (H : Heap) (id : Nat) : Option HObj :=
  match H[id]? with
  | some (some ob) => some ob
  | _ => none

theorem getO_spec {H : Heap} {id : Nat} {ob : HObj} (h : getO H id = some ob) : H[id]? = some (some ob) := by
  unfold getO at h
  split at h
  · rename_i o ho; cases h; exact ho
  · cases h

theorem getO_zero (o : Option HObj) (H : Heap) : getO (o :: H) 0 = o := by cases o <;> rfl
theorem getO_succ (o : Option HObj) (H : Heap) (i : Nat) : getO (o :: H) (i + 1) = getO H i := by simp [getO]

def onO {α : Type} (o : Option α) (f : α → Prop) : Prop :=
  match o with
  | some a => f a
  | none => False

theorem bindO_spec {α : Type} {o : Option α} {f : α → Res} {K : KT} (h : onR (bindO o f) K) : ∃ a, o = some a ∧ onR (f a) K := by
  cases o with
  | none => exact h.elim
  | some a => exact ⟨a, rfl, h⟩

def rv (H : Heap) (p : Prop) (x : HV) : Res := some (p, x, H)

/-- All rows are so long. -/
def RowsLen (rows : List (List HV)) (n : Nat) : Prop := ∀ r ∈ rows, r.length = n

theorem RowsLen_nil {n : Nat} : RowsLen [] n = True := by simp [RowsLen]
theorem RowsLen_cons {r : List HV} {t : List (List HV)} {n : Nat} : RowsLen (r :: t) n = (r.length = n ∧ RowsLen t n) := by simp [RowsLen]
theorem RowsLen_append {a b : List (List HV)} {n : Nat} : RowsLen (a ++ b) n = (RowsLen a n ∧ RowsLen b n) := by
  simp only [RowsLen, List.mem_append, eq_iff_iff]
  exact ⟨fun h => ⟨fun r hr => h r (.inl hr), fun r hr => h r (.inr hr)⟩, fun h r hr => hr.elim (h.1 r) (h.2 r)⟩

/-- The elements of a slice that is built. -/
def PartsOk (T : Nat → HV) (n : Nat) : List (Nat × Operand) → Prop
  | [] => True
  | p :: ps => ((cellsH (hev T p.2)).length = n ∧ (cellsH (hev T p.2)).all c1 = true) ∧ PartsOk T n ps

theorem PartsOk_spec {T : Nat → HV} {n : Nat} : ∀ {ps : List (Nat × Operand)}, PartsOk T n ps → ∀ p ∈ ps, (cellsH (hev T p.2)).length = n ∧ (cellsH (hev T p.2)).all c1 = true
  | [], _, p, hp => by simp at hp
  | q :: ps, h, p, hp => by
    rcases List.mem_cons.1 hp with rfl | hp
    · exact h.1
    · exact PartsOk_spec h.2 p hp

def rpick (H : Heap) (c x y : HV) : Res :=
  match c with
  | .v (.bool true) => rv H True x
  | .v (.bool false) => rv H True y
  | _ => none

def rbin (P : Program) (H : Heap) (op : BinOp) (t : TypeId) (cst : Bool) (a b : HV) : Res := bindO (binRes P op t cst a b) fun v => rv H True (.v v)

def run1 (H : Heap) (op : UnOp) (x : HV) : Res :=
  match op, x with
  | .not, .v (.bool b) => rv H True (.v (.bool (!b)))
  | .neg, .v (.int k n) => rv H True (.v (.int k (k.wrap (0 - n))))
  | _, _ => none

def rextract (H : Heap) (x : HV) (i : Nat) : Res :=
  match x with
  | .tu vs => bindO vs[i]? fun v => rv H True v
  | _ => none

def rconv (P : Program) (H : Heap) (src dst : TypeId) (x : HV) : Res :=
  match x with
  | .v (.int k n) => bindO (intTy P src) fun _ => bindO (intTy P dst) fun k' => rv H True (.v (.int k' (k'.wrap n)))
  | .v (.string s) => rv H (kindIs P src 4 = true ∧ kindIs P dst 4 = true) (.v (.string s))
  | x => bindO (elemTI P src 3) fun e => bindO (srcRows H x) fun rows => bindO (bytesOf rows) fun l => rv H (intTy P e.2.1 = some .u8 ∧ kindIs P dst 4 = true) (.v (str l))

def riface (P : Program) (H : Heap) (t : TypeId) (x : HV) : Res := bindO (ti P t) fun y => rv H (y.kind ≠ 9 ∧ tv x = true) (.ic t x)

def rsure (H : Heap) (x : HV) : Res :=
  match x with
  | .fp rows i o => rv H True (.fp rows i o)
  | .pt id n r o => rv H (liveAt H (.pt id n r o) = true) (.pt id n r o)
  | .fn f cs => rv H True (.fn f cs)
  | .ic t y => rv H True (.ic t y)
  | _ => none

def rfieldAddr (P : Program) (H : Heap) (s : TypeId) (a : HV) (i : Nat) : Res := bindO (fldAt P s i) fun f => rv H (f.2.size ≠ 0 ∧ liveAt H a = true) (moved a f.1)

def rfield (P : Program) (H : Heap) (s : TypeId) (a : HV) (i : Nat) : Res :=
  match a with
  | .ag cs => bindO (fldAt P s i) fun f => rv H (okTI f.2 = true ∧ f.1 + f.2.size ≤ cs.length) (mkV f.2 ((cs.drop f.1).take f.2.size))
  | _ => none

def rindexAddr (P : Program) (H : Heap) (t : TypeId) (a i : HV) : Res :=
  match a, i with
  | .sl rows, .v (.int _ z) => bindO (elemTI P t 3) fun e => rv H (0 ≤ z ∧ z < (rows.length : Int) ∧ RowsLen rows e.2.2.size) (.fp rows z.toNat 0)
  | .hd id off len, .v (.int _ z) => bindO (elemTI P t 3) fun e => bindO (getO H id) fun ob => rv H (off + len = ob.rows.length ∧ ob.sz = e.2.2.size ∧ 0 ≤ z ∧ z < (len : Int)) (.pt id ob.rows.length (off + z.toNat) 0)
  | .pt id n r o, .v (.int _ z) => bindO (elemTI P t 2) fun e => rv H (liveAt H (.pt id n r o) = true ∧ 0 ≤ z ∧ z < (e.1.num : Int)) (.pt id n r (o + z.toNat * e.2.2.size))
  | .fp rows i o, .v (.int _ z) => bindO (elemTI P t 2) fun e => rv H (0 ≤ z ∧ z < (e.1.num : Int)) (.fp rows i (o + z.toNat * e.2.2.size))
  | _, _ => none

def rindex (P : Program) (H : Heap) (t : TypeId) (a i : HV) : Res :=
  match a, i with
  | .v (.string s), .v (.int _ z) => bindO (bl s)[z.toNat]? fun b => rv H (kindIs P t 4 = true ∧ 0 ≤ z) (.v (.int .u8 (b.toNat : Int)))
  | .ag cs, .v (.int _ z) => bindO (elemTI P t 2) fun e => rv H (okTI e.2.2 = true ∧ 0 ≤ z ∧ z < (e.1.num : Int) ∧ z.toNat * e.2.2.size + e.2.2.size ≤ cs.length) (mkV e.2.2 ((cs.drop (z.toNat * e.2.2.size)).take e.2.2.size))
  | _, _ => none

/-- The bounds of a cut, reckoned. -/
def boundV : Option HV → Int → Option Int
  | none, d => some d
  | some (.v (.int _ z)), _ => some z
  | some _, _ => none

def rcut (P : Program) (H : Heap) (t : TypeId) (x : HV) (lo hi : Option HV) : Res :=
  match x with
  | .v (.string s) => bindO (boundV lo 0) fun l => bindO (boundV hi (s.size : Int)) fun h => rv H (kindIs P t 4 = true ∧ 0 ≤ l ∧ l ≤ h ∧ h ≤ (s.size : Int)) (.v (.string (s.extract l.toNat h.toNat)))
  | .sl rows => bindO (elemTI P t 3) fun e => bindO (boundV lo 0) fun l => bindO (boundV hi (rows.length : Int)) fun h => rv H (RowsLen rows e.2.2.size ∧ 0 ≤ l ∧ l ≤ h ∧ h ≤ (rows.length : Int)) (.sl ((rows.drop l.toNat).take (h.toNat - l.toNat)))
  | .hd id off len => bindO (elemTI P t 3) fun e => bindO (boundV lo 0) fun l => bindO (boundV hi (len : Int)) fun h => bindO (getO H id) fun ob =>
      rv H (off + len = ob.rows.length ∧ ob.sz = e.2.2.size ∧ 0 ≤ l ∧ l ≤ h ∧ h = (len : Int)) (.hd id (off + l.toNat) (len - l.toNat))
  | _ => none

def rlen (P : Program) (H : Heap) (t : TypeId) (x : HV) : Res :=
  match x with
  | .v (.string s) => rv H (kindIs P t 4 = true) (.v (.int .i64 (s.size : Int)))
  | .v (.slice none 0 0) => rv H (kindIs P t 3 = true) (.v (.int .i64 0))
  | .sl rows => rv H (kindIs P t 3 = true) (.v (.int .i64 (rows.length : Int)))
  | .hd id off len => bindO (getO H id) fun ob => rv H (off + len = ob.rows.length ∧ kindIs P t 3 = true) (.v (.int .i64 (len : Int)))
  | _ => none

def rloadP (x : TI) (H : Heap) (a : HV) : Res :=
  match a with
  | .pt id n r o => bindO (getO H id) fun ob => bindO ob.rows[r]? fun row => rv H (n = ob.rows.length ∧ o + x.size ≤ ob.sz ∧ tvs ((row.drop o).take x.size) = true) (mkV x ((row.drop o).take x.size))
  | _ => none

def rload2 (x : TI) (H : Heap) (ob : HObj) (row : List HV) (id n r o : Nat) (closed : Bool) : Res :=
  match closed with
  | true => rv H (okTI x = true ∧ n = ob.rows.length ∧ o + x.size ≤ ob.sz) (mkV x ((row.drop o).take x.size))
  | false => bindO (if okTI x = true then some () else none) fun _ => rloadP x (gopens H id r o x.size) (.pt id n r o)

def rload1 (x : TI) (H : Heap) (a : HV) : Res :=
  match a with
  | .pt id n r o => bindO (getO H id) fun ob => bindO ob.rows[r]? fun row => rload2 x H ob row id n r o (tvs ((row.drop o).take x.size))
  | .fp rows i o => bindO rows[i]? fun row => rv H (okTI x = true ∧ o + x.size ≤ row.length ∧ tvs ((row.drop o).take x.size) = true) (mkV x ((row.drop o).take x.size))
  | _ => none

def rload (P : Program) (H : Heap) (t : TypeId) (a : HV) : Res := bindO (ti P t) fun x => rload1 x H a

def rstore (P : Program) (H : Heap) (t : TypeId) (a v : HV) : Res :=
  match a with
  | .pt id n r o => bindO (ti P t) fun x => bindO (getO H id) fun ob => bindO ob.rows[r]? fun row =>
      some (n = ob.rows.length ∧ (cellsH v).length = x.size ∧ (cellsH v).all c1 = true ∧ o + x.size ≤ ob.sz, .any, H.set id (some { ob with rows := ob.rows.set r (row.take o ++ cellsH v ++ row.drop (o + x.size)) }))
  | _ => none

def ralloc (P : Program) (H : Heap) (t : TypeId) : Res := bindO (ti P t) fun x => bindO (zcells x) fun cs => some (True, .pt H.length 1 0 0, H ++ [some ⟨t, x.size, [cs]⟩])
def rbox (P : Program) (H : Heap) (t : TypeId) (v : HV) : Res := some ((cellsH v).all c1 = true, .pt H.length 1 0 0, H ++ [some ⟨t, (cellsH v).length, [cellsH v]⟩])
def rbuild (P : Program) (H : Heap) (t : TypeId) (parts : List (Nat × HV)) : Res := bindO (ti P t) fun x => bindO (zcells x) fun cs => bindO (hfill (places P x) cs parts) fun cs' =>
  rv H (x.agg = true ∧ (x.kind = 1 → ∀ f ∈ x.flds, (ti P f.2).isSome = true) ∧ (x.kind = 2 → (ti P x.elem).isSome = true)) (.ag cs')
def rbuildSlice (P : Program) (T : Nat → HV) (H : Heap) (t : TypeId) (len : Nat) (parts : List (Nat × Operand)) : Res := bindO (elemTI P t 3) fun e =>
  some (len = parts.length ∧ seqParts 0 parts = true ∧ e.2.2.size ≠ 0 ∧ len * e.2.2.size ≤ 16777216 ∧ (zcells e.2.2).isSome = true ∧ PartsOk T e.2.2.size parts,
    .hd H.length 0 parts.length, H ++ [some ⟨e.2.1, e.2.2.size, parts.map fun p => cellsH (hev T p.2)⟩])
def rmakeSlice (P : Program) (H : Heap) (t : TypeId) (l c : HV) : Res :=
  match l, c with
  | .v (.int _ n), .v (.int _ m) => bindO (elemTI P t 3) fun e => bindO (zcells e.2.2) fun cs =>
    some (0 ≤ n ∧ n ≤ m ∧ (e.2.2.bytes : Int) * m ≤ 281474976710656 ∧ m ≤ 9223372036854775807, .hd H.length 0 n.toNat, H ++ [some ⟨e.2.1, e.2.2.size, List.replicate n.toNat cs⟩])
  | _, _ => none
def rappend (P : Program) (H : Heap) (t : TypeId) (s x : HV) : Res :=
  match s with
  | .v (.slice none 0 0) => bindO (elemTI P t 3) fun e => bindO (srcRows H x) fun new =>
    some (e.2.2.size ≠ 0 ∧ (zcells e.2.2).isSome = true ∧ tvs new.flatten = true ∧ RowsLen new e.2.2.size ∧ new.length ≤ 140737488355328 ∧ new.length * e.2.2.bytes ≤ 140737488355328, .hd H.length 0 new.length, H ++ [some ⟨e.2.1, e.2.2.size, new⟩])
  | .hd id 0 len => bindO (elemTI P t 3) fun e => bindO (srcRows H x) fun new => bindO (getO H id) fun ob =>
    some (e.2.2.size ≠ 0 ∧ (zcells e.2.2).isSome = true ∧ tvs new.flatten = true ∧ RowsLen new e.2.2.size ∧ len = ob.rows.length ∧ ob.e = e.2.1 ∧ ob.sz = e.2.2.size ∧ len + new.length ≤ 140737488355328 ∧ (len + new.length) * e.2.2.bytes ≤ 140737488355328,
      .hd id 0 (len + new.length), H.set id (some { ob with rows := ob.rows ++ new }))
  | _ => none

/-- The first rows of a slice; of an object: it is those from now on. -/
def rcutT (P : Program) (H : Heap) (t : TypeId) (x h : HV) : Res :=
  match x with
  | .hd id 0 len => bindO (elemTI P t 3) fun e => bindO (boundV (some h) 0) fun y => bindO (getO H id) fun ob =>
      some (len = ob.rows.length ∧ ob.sz = e.2.2.size ∧ 0 ≤ y ∧ y ≤ (len : Int), .hd H.length 0 y.toNat, H.set id none ++ [some { ob with rows := ob.rows.take y.toNat }])
  | x => rcut P H t x none (some h)

/-- A text to its bytes too. -/
def rconvA (P : Program) (H : Heap) (src dst : TypeId) (x : HV) : Res :=
  match x with
  | .v (.string s) => match kindIs P dst 3 with
    | true => bindO (elemTI P dst 3) fun e => rv H (kindIs P src 4 = true ∧ intTy P e.2.1 = some .u8 ∧ s.size ≤ 140737488355328) (.sl ((bl s).map byteRow))
    | false => rconv P H src dst (.v (.string s))
  | x => rconv P H src dst x

def oneRow : List (List HV) → Option (List HV)
  | [r] => some r
  | _ => none

/-- From a place on; an array too. -/
def rcutB (P : Program) (H : Heap) (t : TypeId) (x lo : HV) : Res :=
  match x with
  | .pt id n 0 0 => bindO (arrTI P t) fun m => bindO (boundV (some lo) 0) fun z => bindO (getO H id) fun ob => bindO (oneRow ob.rows) fun row =>
      some (n = 1 ∧ row.length = m ∧ m ≤ 140737488355328 ∧ 0 ≤ z ∧ z ≤ (m : Int), .sl (((fzoL row).map fun c => [c]).drop z.toNat), H.set id none)
  | x => rcut P H t x (some lo) none

def rmm (b : Bool) (H : Heap) (x y : HV) : Res :=
  match x, y with
  | .v (.int k x), .v (.int _ y) => rv H True (.v (.int k (if b = true then (if y > x then y else x) else (if y < x then y else x))))
  | _, _ => none

/-- What an operation gives; calls of functions apart. -/
def rop (P : Program) (T : Nat → HV) (H : Heap) : Op → Res
  | .move x => rv H True (hev T x)
  | .assign x => rv H True (hev T x)
  | .pick c x y => rpick H (hev T c) (hev T x) (hev T y)
  | .alloc t => ralloc P H t
  | .box t x => rbox P H t (hev T x)
  | .build t parts => rbuild P H t (parts.toList.map fun p => (p.1, hev T p.2))
  | .buildSlice t len parts => rbuildSlice P T H t len parts.toList
  | .load t a => rload P H t (hev T a)
  | .store t a x => rstore P H t (hev T a) (hev T x)
  | .nilCheck x => rsure H (hev T x)
  | .binOp op t x y _ => rbin P H op t (isC x || isC y) (hev T x) (hev T y)
  | .unOp op _ x => run1 H op (hev T x)
  | .convert src dst x => rconvA P H src dst (hev T x)
  | .makeInterface t x => riface P H t (hev T x)
  | .makeFunc (.func f) first cs => match first with
    | ⟨[]⟩ => rv H True (.fn f (cs.toList.map (hev T)))
    | _ => none
  | .makeSlice t l c => rmakeSlice P H t (hev T l) (hev T c)
  | .slice t x none (some hi) none => rcutT P H t (hev T x) (hev T hi)
  | .slice t x (some lo) none none => rcutB P H t (hev T x) (hev T lo)
  | .slice t x lo hi none => rcut P H t (hev T x) (lo.map (hev T)) (hi.map (hev T))
  | .fieldAddr s a i => rfieldAddr P H s (hev T a) i
  | .field s a i => rfield P H s (hev T a) i
  | .indexAddr t a i => rindexAddr P H t (hev T a) (hev T i)
  | .index t a i => rindex P H t (hev T a) (hev T i)
  | .extract x i => rextract H (hev T x) i
  | .call { callee := .builtin .len, args := ⟨[x]⟩, argTypes := ⟨[t]⟩ } => rlen P H t (hev T x)
  | .call { callee := .builtin .append, args := ⟨[s, x]⟩, argTypes := ⟨[t, u]⟩ } => if t = u then rappend P H t (hev T s) (hev T x) else none
  | .call { callee := .builtin .max, args := ⟨[x, y]⟩, argTypes := ⟨[_, _]⟩ } => rmm true H (hev T x) (hev T y)
  | .call { callee := .builtin .min, args := ⟨[x, y]⟩, argTypes := ⟨[_, _]⟩ } => rmm false H (hev T x) (hev T y)
  | _ => none

/-- What is loaded and holds nothing owned. -/
def rloadQ (x : TI) (H : Heap) (a : HV) : Res :=
  match a with
  | .pt id n r o => bindO (getO H id) fun ob => bindO ob.rows[r]? fun row => rv H (okTI x = true ∧ n = ob.rows.length ∧ o + x.size ≤ ob.sz ∧ tvs ((row.drop o).take x.size) = true) (mkV x ((row.drop o).take x.size))
  | .fp rows i o => bindO rows[i]? fun row => rv H (okTI x = true ∧ o + x.size ≤ row.length ∧ tvs ((row.drop o).take x.size) = true) (mkV x ((row.drop o).take x.size))
  | _ => none

/-- The same of operations that do not touch the world. -/
def ropQ (P : Program) (T : Nat → HV) (H : Heap) : Op → Res
  | .move x => rv H True (hev T x)
  | .assign x => rv H True (hev T x)
  | .pick c x y => rpick H (hev T c) (hev T x) (hev T y)
  | .build t parts => rbuild P H t (parts.toList.map fun p => (p.1, hev T p.2))
  | .load t a => bindO (ti P t) fun x => rloadQ x H (hev T a)
  | .nilCheck x => rsure H (hev T x)
  | .binOp op t x y _ => rbin P H op t (isC x || isC y) (hev T x) (hev T y)
  | .unOp op _ x => run1 H op (hev T x)
  | .convert src dst x => rconv P H src dst (hev T x)
  | .makeInterface t x => riface P H t (hev T x)
  | .makeFunc (.func f) first cs => match first with
    | ⟨[]⟩ => rv H True (.fn f (cs.toList.map (hev T)))
    | _ => none
  | .slice t x lo hi none => rcut P H t (hev T x) (lo.map (hev T)) (hi.map (hev T))
  | .fieldAddr s a i => rfieldAddr P H s (hev T a) i
  | .field s a i => rfield P H s (hev T a) i
  | .indexAddr t a i => rindexAddr P H t (hev T a) (hev T i)
  | .index t a i => rindex P H t (hev T a) (hev T i)
  | .extract x i => rextract H (hev T x) i
  | .call { callee := .builtin .len, args := ⟨[x]⟩, argTypes := ⟨[t]⟩ } => rlen P H t (hev T x)
  | .call { callee := .builtin .max, args := ⟨[x, y]⟩, argTypes := ⟨[_, _]⟩ } => rmm true H (hev T x) (hev T y)
  | .call { callee := .builtin .min, args := ⟨[x, y]⟩, argTypes := ⟨[_, _]⟩ } => rmm false H (hev T x) (hev T y)
  | _ => none

section
variable {P : Program} {N : Nat} {T : Nat → HV} {H : Heap} {K : KT}

theorem HQ_rcut {o : Oper} {t : TypeId} {x : Operand} {lo hi : Option Operand} (ho : o.op = .slice t x lo hi none) (hok : operOk N o = true) (h : onR (rcut P H t (hev T x) (lo.map (hev T)) (hi.map (hev T))) K) : HQ P N o T H K := by
  refine HR_cut ho hok ?_
  have hlo : ∀ l, boundV (lo.map (hev T)) 0 = some l → cutLo T lo = some l := by
    intro l hl
    cases lo with
    | none => simpa [boundV, cutLo] using hl
    | some x =>
      simp only [Option.map_some] at hl
      unfold boundV at hl
      unfold cutLo
      split at hl
      · rename_i e; cases e
      · rename_i k z d e
        simp only [Option.some.injEq] at e
        simp only [e]; exact hl
      · cases hl
  have hhi : ∀ (n : Nat) h, boundV (hi.map (hev T)) (n : Int) = some h → cutHi T n hi = some h := by
    intro n l hl
    cases hi with
    | none => simpa [boundV, cutHi] using hl
    | some x =>
      simp only [Option.map_some] at hl
      unfold boundV at hl
      unfold cutHi
      split at hl
      · rename_i e; cases e
      · rename_i k z d e
        simp only [Option.some.injEq] at e
        simp only [e]; exact hl
      · cases hl
  unfold rcut at h
  unfold hcut
  split at h
  · rename_i s e
    obtain ⟨l, hl, h⟩ := bindO_spec h
    obtain ⟨h', hh, h⟩ := bindO_spec h
    rw [e]; simp only [hlo l hl, hhi _ _ hh]
    exact ⟨h.1.1, h.1.2.1, h.1.2.2.1, h.1.2.2.2, h.2⟩
  · rename_i rows e
    obtain ⟨⟨x0, e', te⟩, he, h⟩ := bindO_spec h
    obtain ⟨l, hl, h⟩ := bindO_spec h
    obtain ⟨h', hh, h⟩ := bindO_spec h
    rw [e]; simp only [he, hlo l hl, hhi _ _ hh]
    exact ⟨h.1.1, h.1.2.1, h.1.2.2.1, h.1.2.2.2, h.2⟩
  · rename_i id off len e
    obtain ⟨⟨x0, e', te⟩, he, h⟩ := bindO_spec h
    obtain ⟨l, hl, h⟩ := bindO_spec h
    obtain ⟨h', hh, h⟩ := bindO_spec h
    obtain ⟨ob, ho, h⟩ := bindO_spec h
    rw [e]; simp only [he, hlo l hl, hhi _ _ hh, getO_spec ho]
    exact ⟨h.1.1, h.1.2.1, h.1.2.2.1, h.1.2.2.2.1, h.1.2.2.2.2, h.2⟩
  · exact h.elim

theorem HQ_load {o : Oper} {t : TypeId} {a : Operand} {x : TI} (ho : o.op = .load t a) (hok : operOk N o = true) (hx : ti P t = some x) (h : onR (rloadQ x H (hev T a)) K) : HQ P N o T H K :=
  fun B Z G FP ds act w hs => by
    have ha := hs.hev a (opds_mem hok (by simp [ho, Op.operands]))
    have hk : okTI x = true ∧ hloadP x H (hev T a) K := by
      unfold rloadQ at h
      unfold hloadP
      split at h
      · rename_i id n r o e
        rw [e]
        obtain ⟨ob, ho, h⟩ := bindO_spec h
        obtain ⟨row, hr, h⟩ := bindO_spec h
        simp only [getO_spec ho, hr]
        exact ⟨h.1.1, h.1.2.1, h.1.2.2.1, h.1.2.2.2, h.2⟩
      · rename_i rows i o e
        rw [e]
        obtain ⟨row, hr, h⟩ := bindO_spec h
        simp only [hr]
        exact ⟨h.1.1, h.1.2.1, h.1.2.2, h.2⟩
      · exact h.elim
    obtain ⟨v, h', h1, h2, h3⟩ := hloadP_run hx hk.1 hs.inv ha hk.2
    exact ⟨v, h', by simp only [execOp, ho, Sem.run_bind, h1, Result.andThen_ok, Sem.run_pure], h2, h3⟩

theorem HQ_rconv {o : Oper} {src dst : TypeId} {x : Operand} (ho : o.op = .convert src dst x) (hok : operOk N o = true) (h : onR (rconv P H src dst (hev T x)) K) : HQ P N o T H K := by
  unfold rconv at h
  split at h
  · rename_i k n e
    obtain ⟨k1, h1, h⟩ := bindO_spec h
    obtain ⟨k2, h2, h⟩ := bindO_spec h
    refine HR_convI ho hok ?_
    unfold hconvI; rw [e]; simp only [h1, h2]; exact h.2
  · rename_i s e
    refine HR_convI ho hok ?_
    unfold hconvI; rw [e]; exact ⟨h.1.1, h.1.2, h.2⟩
  · rename_i e1 e2
    obtain ⟨⟨x0, e, te⟩, he, h⟩ := bindO_spec h
    obtain ⟨rows, hr, h⟩ := bindO_spec h
    obtain ⟨l, hl, h⟩ := bindO_spec h
    refine HR_convS ho hok ?_
    unfold hconvS; rw [he, hr]; simp only [hl]; exact ⟨h.1.1, h.1.2, h.2⟩

theorem HQ_rmm {o : Oper} {b : Bool} {x y : Operand} {t u : TypeId} (ho : o.op = .call { callee := .builtin (if b = true then .max else .min), args := #[x, y], argTypes := #[t, u] }) (hok : operOk N o = true) (h : onR (rmm b H (hev T x) (hev T y)) K) : HQ P N o T H K := by
  have h' : hmm b (hev T x) (hev T y) (fun v => K v H) := by
    unfold rmm at h
    unfold hmm
    split at h
    · rename_i e1 e2; rw [e1, e2]; exact h.2
    · exact h.elim
  cases b with
  | true => exact HR_max ho hok h'
  | false => exact HR_min ho hok h'

theorem HQ_rop {o : Oper} (hok : operOk N o = true) (h : onR (ropQ P T H o.op) K) : HQ P N o T H K := by
  obtain ⟨d, op, ty, pos, af, g⟩ := o
  simp only at h
  unfold ropQ at h
  split at h
  · exact (HR_move (.inl rfl) hok h.2)
  · exact (HR_move (.inr rfl) hok h.2)
  · rename_i c x y
    unfold rpick at h
    split at h
    · rename_i hc; exact (HR_pick rfl hok hc (by simpa using h.2))
    · rename_i hc; exact (HR_pick rfl hok hc (by simpa using h.2))
    · exact h.elim
  · rename_i t parts
    obtain ⟨x, hx, h⟩ := bindO_spec h
    obtain ⟨cs, hcs, h⟩ := bindO_spec h
    obtain ⟨cs', hcs', h⟩ := bindO_spec h
    refine (HR_build rfl hok ?_)
    unfold hbuild; rw [hx]; simp only [hcs, hcs']; exact ⟨h.1.1, h.1.2.1, h.1.2.2, h.2⟩
  · rename_i t a
    obtain ⟨x, hx, h⟩ := bindO_spec h
    exact HQ_load rfl hok hx h
  · rename_i x
    refine (HR_sure rfl hok ?_)
    unfold rsure at h
    unfold hsure
    split at h <;> rename_i e <;> first | (rw [e]; exact h.2) | (rw [e]; exact ⟨h.1, h.2⟩) | exact h.elim
  · rename_i op t x y t'
    obtain ⟨v, hv, h⟩ := bindO_spec h
    refine (HR_bin rfl hok ?_)
    unfold hbin; rw [hv]; exact h.2
  · rename_i op t x
    refine (HR_un rfl hok ?_)
    unfold run1 at h
    unfold hun
    split at h <;> first | (rename_i e; rw [e]; exact h.2) | exact h.elim
  · rename_i src dst x
    exact HQ_rconv rfl hok h
  · rename_i t x
    obtain ⟨y, hy, h⟩ := bindO_spec h
    refine (HR_iface rfl hok ?_)
    unfold hiface; rw [hy]; exact ⟨h.1.1, h.1.2, h.2⟩
  · rename_i f first cs
    split at h
    · exact (HR_func rfl hok h.2)
    · exact h.elim
  · rename_i t x lo hi
    exact HQ_rcut rfl hok h
  · rename_i s a i
    obtain ⟨⟨off, fx⟩, hf, h⟩ := bindO_spec h
    refine (HR_fieldAddr rfl hok ?_)
    unfold hfieldAddr; rw [hf]; exact ⟨h.1.1, h.1.2, h.2⟩
  · rename_i s a i
    unfold rfield at h
    split at h
    · rename_i cs e
      obtain ⟨⟨off, fx⟩, hf, h⟩ := bindO_spec h
      refine (HR_field rfl hok ?_)
      unfold hfield; rw [hf, e]; exact ⟨h.1.1, h.1.2, h.2⟩
    · exact h.elim
  · rename_i t a i
    refine (HR_indexAddr rfl hok ?_)
    unfold rindexAddr at h
    unfold hindexAddr
    split at h
    · rename_i rows k z e1 e2
      obtain ⟨⟨x0, e', te⟩, he, h⟩ := bindO_spec h
      rw [e1, e2]; simp only [he]; exact ⟨h.1.1, h.1.2.1, h.1.2.2, h.2⟩
    · rename_i id off len k z e1 e2
      obtain ⟨⟨x0, e', te⟩, he, h⟩ := bindO_spec h
      obtain ⟨ob, ho, h⟩ := bindO_spec h
      rw [e1, e2]; simp only [he, getO_spec ho]; exact ⟨h.1.1, h.1.2.1, h.1.2.2.1, h.1.2.2.2, h.2⟩
    · rename_i id n r o k z e1 e2
      obtain ⟨⟨x0, e', te⟩, he, h⟩ := bindO_spec h
      rw [e1, e2]; simp only [he]; exact ⟨h.1.1, h.1.2.1, h.1.2.2, h.2⟩
    · rename_i rows i o k z e1 e2
      obtain ⟨⟨x0, e', te⟩, he, h⟩ := bindO_spec h
      rw [e1, e2]; simp only [he]; exact ⟨rfl, h.1.1, h.1.2, h.2⟩
    · exact h.elim
  · rename_i t a i
    refine (HR_index rfl hok ?_)
    unfold rindex at h
    unfold hindex
    split at h
    · rename_i s k z e1 e2
      obtain ⟨b, hb, h⟩ := bindO_spec h
      rw [e1, e2]; simp only [hb]; exact ⟨h.1.1, h.1.2, h.2⟩
    · rename_i cs k z e1 e2
      obtain ⟨⟨x0, e', te⟩, he, h⟩ := bindO_spec h
      rw [e1, e2]; simp only [he]; exact ⟨h.1.1, h.1.2.1, h.1.2.2.1, h.1.2.2.2, h.2⟩
    · exact h.elim
  · rename_i x i
    refine (HR_extract rfl hok ?_)
    unfold rextract at h
    unfold hextract
    split at h
    · rename_i vs e
      obtain ⟨v, hv, h⟩ := bindO_spec h
      rw [e]; simp only [hv]; exact h.2
    · exact h.elim
  · rename_i x t
    refine (HR_len rfl hok ?_)
    unfold rlen at h
    unfold hlen
    split at h
    · rename_i s e; rw [e]; exact ⟨h.1, h.2⟩
    · rename_i e; rw [e]; exact ⟨h.1, h.2⟩
    · rename_i rows e; rw [e]; exact ⟨h.1, h.2⟩
    · rename_i id off len e
      obtain ⟨ob, ho, h⟩ := bindO_spec h
      rw [e]; simp only [getO_spec ho]; exact ⟨h.1.1, h.1.2, h.2⟩
    · exact h.elim
  · rename_i x y _ _
    exact HQ_rmm (b := true) rfl hok h
  · rename_i x y _ _
    exact HQ_rmm (b := false) rfl hok h
  · exact h.elim

theorem HR_rop {o : Oper} (hok : operOk N o = true) (h : onR (rop P T H o.op) K) : HR P N o T H K := by
  obtain ⟨d, op, ty, pos, af, g⟩ := o
  simp only at h
  unfold rop at h
  split at h
  · exact HR_quiet (HR_move (.inl rfl) hok h.2)
  · exact HR_quiet (HR_move (.inr rfl) hok h.2)
  · rename_i c x y
    unfold rpick at h
    split at h
    · rename_i hc; exact HR_quiet (HR_pick rfl hok hc (by simpa using h.2))
    · rename_i hc; exact HR_quiet (HR_pick rfl hok hc (by simpa using h.2))
    · exact h.elim
  · rename_i t
    obtain ⟨x, hx, h⟩ := bindO_spec h
    obtain ⟨cs, hcs, h⟩ := bindO_spec h
    refine HR_alloc rfl ?_
    unfold halloc; rw [hx]; simp only [hcs]; exact h.2
  · exact HR_box rfl hok h
  · rename_i t parts
    obtain ⟨x, hx, h⟩ := bindO_spec h
    obtain ⟨cs, hcs, h⟩ := bindO_spec h
    obtain ⟨cs', hcs', h⟩ := bindO_spec h
    refine HR_quiet (HR_build rfl hok ?_)
    unfold hbuild; rw [hx]; simp only [hcs, hcs']; exact ⟨h.1.1, h.1.2.1, h.1.2.2, h.2⟩
  · rename_i t len parts
    obtain ⟨⟨x, e, te⟩, he, h⟩ := bindO_spec h
    refine HR_buildSlice rfl hok ?_
    unfold hbuildSlice newHd; rw [he]; simp only [List.length_map]
    obtain ⟨⟨h1, h2, h3, h4, h5, h6⟩, h7⟩ := h
    exact ⟨h1, h2, h3, h4, h5, PartsOk_spec h6, h7⟩
  · rename_i t a
    obtain ⟨x, hx, h⟩ := bindO_spec h
    refine HR_load rfl hok ?_
    unfold hload; rw [hx]
    unfold rload1 at h
    split at h
    · rename_i id n r o e
      obtain ⟨ob, ho, h⟩ := bindO_spec h
      obtain ⟨row, hr, h⟩ := bindO_spec h
      have hcl : closedAt x H (.pt id n r o) = tvs ((row.drop o).take x.size) := by simp only [closedAt, getO_spec ho, hr]
      rw [e]
      unfold rload2 at h
      split at h
      · rename_i ht
        refine ⟨h.1.1, ?_⟩
        rw [hcl, ht, if_pos rfl]
        unfold hloadP
        simp only [getO_spec ho, hr]
        exact ⟨h.1.2.1, h.1.2.2, ht, h.2⟩
      · rename_i ht
        obtain ⟨_, hk, h⟩ := bindO_spec h
        have hk' : okTI x = true := by split at hk; assumption; cases hk
        refine ⟨hk', ?_⟩
        rw [hcl, ht, if_neg (by simp)]
        simp only [openAt]
        unfold rloadP at h
        unfold hloadP
        obtain ⟨ob', ho', h⟩ := bindO_spec h
        obtain ⟨row', hr', h⟩ := bindO_spec h
        simp only [getO_spec ho', hr']
        exact ⟨h.1.1, h.1.2.1, h.1.2.2, h.2⟩
    · rename_i rows i o e
      obtain ⟨row, hr, h⟩ := bindO_spec h
      rw [e]
      refine ⟨h.1.1, ?_⟩
      unfold closedAt
      rw [if_pos rfl]
      unfold hloadP
      simp only [hr]
      exact ⟨h.1.2.1, h.1.2.2, h.2⟩
    · exact h.elim
  · rename_i t a x
    refine HR_store rfl hok ?_
    unfold rstore at h
    split at h
    · rename_i id n r o e
      obtain ⟨x', hx, h⟩ := bindO_spec h
      obtain ⟨ob, ho, h⟩ := bindO_spec h
      obtain ⟨row, hr, h⟩ := bindO_spec h
      unfold hstore; rw [hx, e]
      simp only [getO_spec ho, hr]
      exact ⟨h.1.1, h.1.2.1, h.1.2.2.1, h.1.2.2.2, h.2⟩
    · exact h.elim
  · rename_i x
    refine HR_quiet (HR_sure rfl hok ?_)
    unfold rsure at h
    unfold hsure
    split at h <;> rename_i e <;> first | (rw [e]; exact h.2) | (rw [e]; exact ⟨h.1, h.2⟩) | exact h.elim
  · rename_i op t x y t'
    obtain ⟨v, hv, h⟩ := bindO_spec h
    refine HR_quiet (HR_bin rfl hok ?_)
    unfold hbin; rw [hv]; exact h.2
  · rename_i op t x
    refine HR_quiet (HR_un rfl hok ?_)
    unfold run1 at h
    unfold hun
    split at h <;> first | (rename_i e; rw [e]; exact h.2) | exact h.elim
  · rename_i src dst x
    unfold rconvA at h
    split at h
    · rename_i s e
      split at h
      · obtain ⟨⟨x0, e', te⟩, he, h⟩ := bindO_spec h
        refine HR_bytes rfl hok ?_
        unfold hbytes; rw [e]; simp only [he]
        exact ⟨h.1.1, h.1.2.1, h.1.2.2, h.2⟩
      · exact HR_quiet (HQ_rconv rfl hok (by rw [e]; exact h))
    · exact HR_quiet (HQ_rconv rfl hok h)
  · rename_i t x
    obtain ⟨y, hy, h⟩ := bindO_spec h
    refine HR_quiet (HR_iface rfl hok ?_)
    unfold hiface; rw [hy]; exact ⟨h.1.1, h.1.2, h.2⟩
  · rename_i f first cs
    split at h
    · exact HR_quiet (HR_func rfl hok h.2)
    · exact h.elim
  · rename_i t l c
    refine HR_makeSlice rfl hok ?_
    unfold rmakeSlice at h
    split at h
    · rename_i k1 n k2 m e1 e2
      obtain ⟨⟨x0, e, te⟩, he, h⟩ := bindO_spec h
      obtain ⟨cs, hcs, h⟩ := bindO_spec h
      unfold hmakeSlice newHd; rw [he, e1, e2]; simp only [hcs, List.length_replicate]
      exact ⟨h.1.1, h.1.2.1, h.1.2.2.1, h.1.2.2.2, h.2⟩
    · exact h.elim
  · rename_i t x hi
    unfold rcutT at h
    split at h
    · rename_i id len e
      obtain ⟨⟨x0, e', te⟩, he, h⟩ := bindO_spec h
      obtain ⟨y, hy, h⟩ := bindO_spec h
      obtain ⟨ob, ho, h⟩ := bindO_spec h
      refine HR_cutT rfl hok ?_
      unfold hcutT
      have hc : cutHi T len (some hi) = some y := by
        unfold boundV at hy
        simp only [cutHi]
        split at hy
        · rename_i e; cases e
        · rename_i k z d e
          simp only [Option.some.injEq] at e
          simp only [e]; exact hy
        · cases hy
      rw [e]
      simp only [he, hc, getO_spec ho]
      exact ⟨h.1.1, h.1.2.1, h.1.2.2.1, h.1.2.2.2, h.2⟩
    · exact HR_quiet (HQ_rcut (lo := none) (hi := some hi) rfl hok h)
  · rename_i t x lo
    unfold rcutB at h
    split at h
    · rename_i id n e
      obtain ⟨m, hm, h⟩ := bindO_spec h
      obtain ⟨z, hz, h⟩ := bindO_spec h
      obtain ⟨ob, ho, h⟩ := bindO_spec h
      obtain ⟨row, hr, h⟩ := bindO_spec h
      refine HR_cutA rfl hok ?_
      unfold hcutA; rw [e]
      unfold boundV at hz
      split at hz
      · rename_i e1; cases e1
      · rename_i k z' d e1
        cases hz
        simp only [Option.some.injEq] at e1
        have hrow : ob.rows = [row] := by
          unfold oneRow at hr; split at hr
          · rename_i r' e2; cases hr; exact e2
          · cases hr
        simp only [hm, e1, getO_spec ho, hrow]
        exact ⟨h.1.1, h.1.2.1, h.1.2.2.1, h.1.2.2.2.1, h.1.2.2.2.2, h.2⟩
      · cases hz
    · exact HR_quiet (HQ_rcut (lo := some lo) (hi := none) rfl hok h)
  · rename_i t x lo hi hne hne2
    exact HR_quiet (HQ_rcut rfl hok h)
  · rename_i s a i
    obtain ⟨⟨off, fx⟩, hf, h⟩ := bindO_spec h
    refine HR_quiet (HR_fieldAddr rfl hok ?_)
    unfold hfieldAddr; rw [hf]; exact ⟨h.1.1, h.1.2, h.2⟩
  · rename_i s a i
    unfold rfield at h
    split at h
    · rename_i cs e
      obtain ⟨⟨off, fx⟩, hf, h⟩ := bindO_spec h
      refine HR_quiet (HR_field rfl hok ?_)
      unfold hfield; rw [hf, e]; exact ⟨h.1.1, h.1.2, h.2⟩
    · exact h.elim
  · rename_i t a i
    refine HR_quiet (HR_indexAddr rfl hok ?_)
    unfold rindexAddr at h
    unfold hindexAddr
    split at h
    · rename_i rows k z e1 e2
      obtain ⟨⟨x0, e', te⟩, he, h⟩ := bindO_spec h
      rw [e1, e2]; simp only [he]; exact ⟨h.1.1, h.1.2.1, h.1.2.2, h.2⟩
    · rename_i id off len k z e1 e2
      obtain ⟨⟨x0, e', te⟩, he, h⟩ := bindO_spec h
      obtain ⟨ob, ho, h⟩ := bindO_spec h
      rw [e1, e2]; simp only [he, getO_spec ho]; exact ⟨h.1.1, h.1.2.1, h.1.2.2.1, h.1.2.2.2, h.2⟩
    · rename_i id n r o k z e1 e2
      obtain ⟨⟨x0, e', te⟩, he, h⟩ := bindO_spec h
      rw [e1, e2]; simp only [he]; exact ⟨h.1.1, h.1.2.1, h.1.2.2, h.2⟩
    · rename_i rows i o k z e1 e2
      obtain ⟨⟨x0, e', te⟩, he, h⟩ := bindO_spec h
      rw [e1, e2]; simp only [he]; exact ⟨rfl, h.1.1, h.1.2, h.2⟩
    · exact h.elim
  · rename_i t a i
    refine HR_quiet (HR_index rfl hok ?_)
    unfold rindex at h
    unfold hindex
    split at h
    · rename_i s k z e1 e2
      obtain ⟨b, hb, h⟩ := bindO_spec h
      rw [e1, e2]; simp only [hb]; exact ⟨h.1.1, h.1.2, h.2⟩
    · rename_i cs k z e1 e2
      obtain ⟨⟨x0, e', te⟩, he, h⟩ := bindO_spec h
      rw [e1, e2]; simp only [he]; exact ⟨h.1.1, h.1.2.1, h.1.2.2.1, h.1.2.2.2, h.2⟩
    · exact h.elim
  · rename_i x i
    refine HR_quiet (HR_extract rfl hok ?_)
    unfold rextract at h
    unfold hextract
    split at h
    · rename_i vs e
      obtain ⟨v, hv, h⟩ := bindO_spec h
      rw [e]; simp only [hv]; exact h.2
    · exact h.elim
  · rename_i x t
    refine HR_quiet (HR_len rfl hok ?_)
    unfold rlen at h
    unfold hlen
    split at h
    · rename_i s e; rw [e]; exact ⟨h.1, h.2⟩
    · rename_i e; rw [e]; exact ⟨h.1, h.2⟩
    · rename_i rows e; rw [e]; exact ⟨h.1, h.2⟩
    · rename_i id off len e
      obtain ⟨ob, ho, h⟩ := bindO_spec h
      rw [e]; simp only [getO_spec ho]; exact ⟨h.1.1, h.1.2, h.2⟩
    · exact h.elim
  · rename_i s x t u
    split at h
    · rename_i htu
      subst htu
      refine HR_append rfl hok ?_
      unfold rappend at h
      unfold happend newHd
      split at h
      · rename_i es
        obtain ⟨⟨x0, e', te⟩, he, h⟩ := bindO_spec h
        obtain ⟨new, hn, h⟩ := bindO_spec h
        obtain ⟨⟨h1, h2, h3, h4, h5, h6⟩, h7⟩ := h
        rw [he, hn, es]
        exact ⟨h1, h2, h3, h4, h5, h6, h7⟩
      · rename_i id len es
        obtain ⟨⟨x0, e', te⟩, he, h⟩ := bindO_spec h
        obtain ⟨new, hn, h⟩ := bindO_spec h
        obtain ⟨ob, ho, h⟩ := bindO_spec h
        obtain ⟨⟨h1, h2, h3, h4, h5, h6, h7, h8, h9⟩, h10⟩ := h
        rw [he, hn, es]
        simp only [getO_spec ho]
        exact ⟨h1, h2, h3, h4, h5, h6, h7, h8, h9, h10⟩
      · exact h.elim
    · exact h.elim
  · rename_i x y _ _
    exact HR_quiet (HQ_rmm (b := true) rfl hok h)
  · rename_i x y _ _
    exact HR_quiet (HQ_rmm (b := false) rfl hok h)
  · exact h.elim
end
end Go.Proofs.YtcpefnjofekibaaDoor
