/- Part H of the engine: operations that only reckon. -/
import Derived.Test.YtcpefnjofekibaaDoorHiG
import Derived.Laws.StructEq
namespace Go.Proofs.YtcpefnjofekibaaDoor
open Go.RowKit
set_option linter.unusedVariables false
set_option linter.unusedSimpArgs false

theorem TI.of_kind (d : TypeDesc) (i : TypeInfo) : (TI.of d i).kind = (match d with | .struct _ => 1 | .array _ _ => 2 | .slice _ => 3 | .string => 4 | .map _ _ => 5 | .pointer _ => 6 | .bool => 7 | .int _ => 8 | .interface _ => 9 | .func _ _ _ => 10 | _ => 0) := by cases d <;> rfl

def kindIs (P : Program) (t : TypeId) (k : Nat) : Bool := match ti P t with | some x => x.kind == k | none => false

theorem kind_bool {P : Program} {t : TypeId} (h : kindIs P t 7 = true) : P.underlying t = some .bool := by
  unfold kindIs at h
  split at h
  · rename_i x hx
    obtain ⟨d, i, hd, hi, rfl⟩ := ti_spec hx
    rw [TI.of_kind] at h
    cases d <;> simp at h
    exact hd
  · cases h
theorem kind_iface {P : Program} {t : TypeId} (h : kindIs P t 9 = true) : ∃ ms, P.underlying t = some (.interface ms) := by
  unfold kindIs at h
  split at h
  · rename_i x hx
    obtain ⟨d, i, hd, hi, rfl⟩ := ti_spec hx
    rw [TI.of_kind] at h
    cases d <;> simp at h
    exact ⟨_, hd⟩
  · cases h
theorem kind_slice {P : Program} {t : TypeId} (h : kindIs P t 3 = true) : ∃ e, P.underlying t = some (.slice e) := by
  unfold kindIs at h
  split at h
  · rename_i x hx
    obtain ⟨d, i, hd, hi, rfl⟩ := ti_spec hx
    rw [TI.of_kind] at h
    cases d <;> simp at h
    exact ⟨_, hd⟩
  · cases h
theorem kind_string {P : Program} {t : TypeId} (h : kindIs P t 4 = true) : P.underlying t = some .string := by
  unfold kindIs at h
  split at h
  · rename_i x hx
    obtain ⟨d, i, hd, hi, rfl⟩ := ti_spec hx
    rw [TI.of_kind] at h
    cases d <;> simp at h
    exact hd
  · cases h
theorem kind_int {P : Program} {t : TypeId} (h : kindIs P t 8 = true) : ∃ e, P.underlying t = some (.int e) := by
  unfold kindIs at h
  split at h
  · rename_i x hx
    obtain ⟨d, i, hd, hi, rfl⟩ := ti_spec hx
    rw [TI.of_kind] at h
    cases d <;> simp at h
    exact ⟨_, hd⟩
  · cases h
theorem kind_ptr {P : Program} {t : TypeId} (h : kindIs P t 6 = true) : ∃ e, P.underlying t = some (.pointer e) := by
  unfold kindIs at h
  split at h
  · rename_i x hx
    obtain ⟨d, i, hd, hi, rfl⟩ := ti_spec hx
    rw [TI.of_kind] at h
    cases d <;> simp at h
    exact ⟨_, hd⟩
  · cases h

/-- The bytes of a text. -/
def bl (s : ByteArray) : List UInt8 := s.data.toList
/-- The text of bytes. -/
def str (l : List UInt8) : Value := .string ⟨l.toArray⟩

theorem toList_bl (s : ByteArray) : s.toList = bl s := ByteArray.toList_eq s

theorem lbeq (a b : List UInt8) : (a == b) = decide (a = b) := by by_cases h : a = b <;> simp [h]

def isC : Operand → Bool
  | .const _ => true
  | _ => false

/-- Whole numbers under an operator. -/
def intRes (op : BinOp) (k : IntKind) (x y : Int) : Option Value :=
  match op with
  | .add => some (.int k (k.wrap (x + y)))
  | .sub => some (.int k (k.wrap (x - y)))
  | .mul => some (.int k (k.wrap (x * y)))
  | .quo => if y = 0 then none else some (.int k (k.wrap (x.tdiv y)))
  | .rem => if y = 0 then none else some (.int k (x.tmod y))
  | .eql => some (.bool (decide (x = y)))
  | .neq => some (.bool (!decide (x = y)))
  | .lss => some (.bool (decide (x < y)))
  | .leq => some (.bool (decide (x ≤ y)))
  | .gtr => some (.bool (decide (y < x)))
  | .geq => some (.bool (decide (y ≤ x)))
  | _ => none

/-- Texts under an operator. -/
def strRes (op : BinOp) (x y : ByteArray) : Option Value :=
  match op with
  | .add => if x.size + y.size ≤ 9223372036854775807 then some (.string (x ++ y)) else none
  | .eql => some (.bool (decide (bl x = bl y)))
  | .neq => some (.bool (!decide (bl x = bl y)))
  | .lss => some (.bool (Op.bytesLess (bl x) (bl y)))
  | .leq => some (.bool (Op.bytesLess (bl x) (bl y) || decide (bl x = bl y)))
  | .gtr => some (.bool (!(Op.bytesLess (bl x) (bl y) || decide (bl x = bl y))))
  | .geq => some (.bool (!Op.bytesLess (bl x) (bl y)))
  | _ => none

def eqRes (op : BinOp) (b : Bool) : Option Value :=
  match op with
  | .eql => some (.bool b)
  | .neq => some (.bool (!b))
  | _ => none

/-- Cells of plain kinds (as TI's), compared one by one. -/
def eqK : List Nat → List HV → List HV → Option Bool
  | [], [], [] => some true
  | k :: ks, .v (.int i x) :: a, .v (.int j y) :: b => if k = 8 ∧ i = j then (eqK ks a b).map fun r => decide (x = y) && r else none
  | k :: ks, .v (.string x) :: a, .v (.string y) :: b => if k = 4 then (eqK ks a b).map fun r => decide (bl x = bl y) && r else none
  | k :: ks, .v (.bool x) :: a, .v (.bool y) :: b => if k = 7 then (eqK ks a b).map fun r => decide (x = y) && r else none
  | _, _, _ => none

/-- A struct's fields, each of one cell, of a plain kind. -/
def flatK (P : Program) : Nat → List Field → Option (List Nat)
  | _, [] => some []
  | k, f :: fs =>
    match ti P f.type, flatK P (k + 1) fs with
    | some x, some ks => if f.name ≠ "_" ∧ f.offset = k ∧ (x.kind = 8 ∨ x.kind = 4 ∨ x.kind = 7) ∧ x.size = 1 then some (x.kind :: ks) else none
    | _, _ => none

/-- The kinds of a flat struct's fields. -/
def eqKinds (P : Program) (t : TypeId) : Option (List Nat) :=
  match P.underlying t with
  | some (.struct fs) => if P.stoodInHeld t = false ∧ P.eqGuardType P.depth t = false then flatK P 0 fs.toList else none
  | _ => none

/-- Two values, and what an operator makes of them. -/
def binRes (P : Program) (op : BinOp) (t : TypeId) (cst : Bool) (a b : HV) : Option Value :=
  match a, b with
  | .v (.int k x), .v (.int k' y) => if k = k' then intRes op k x y else none
  | .v (.string x), .v (.string y) => strRes op x y
  | .v (.bool x), .v (.bool y) => if kindIs P t 7 = true then eqRes op (decide (x = y)) else none
  | .ic _ _, .v .nilIface => if kindIs P t 9 = true then eqRes op false else none
  | .v .nilIface, .v .nilIface => if kindIs P t 9 = true ∧ cst = true then eqRes op true else none
  | .v (.slice none 0 0), .v (.slice none 0 0) => if kindIs P t 3 = true then eqRes op true else none
  | .ag a, .ag b => (eqKinds P t).bind fun ks => (eqK ks a b).bind fun r => eqRes op r
  | _, _ => none

def hbin (P : Program) (op : BinOp) (t : TypeId) (cst : Bool) (a b : HV) (K : HV → Prop) : Prop :=
  match binRes P op t cst a b with
  | some v => K (.v v)
  | none => False

section
variable {P : Program} {N : Nat} {T : Nat → HV} {H : Heap} {K : KT} {Z : Nat → Prop} {G : List (Option OG)} {FP : Nat → List Nat} {w : World}

theorem RV_v {x y : Value} {fp : List Nat} (h : RV Z G w (.v x) y fp) : y = x := by simp only [RV] at h; exact h.2

/-- What is known by a value that does not touch the world. -/
def HQ (P : Program) (N : Nat) (o : Oper) (T : Nat → HV) (H : Heap) (K : KT) : Prop :=
  ∀ B Z G FP ds a w, St N B Z G FP ds T H a w → ∃ v x, (execOp a.eval o).run P w = .ok (.value v) w ∧ K x H ∧ RV Z G w x v []

theorem HR_quiet {o : Oper} (h : HQ P N o T H K) : HR P N o T H K := by
  intro B Z G FP ds a w hs
  obtain ⟨v, x, h1, h2, h3⟩ := h B Z G FP ds a w hs
  exact ⟨.value v, v, w, x, H, Z, G, FP, h1, .inl rfl, h2, h3, hs.inv, GLe.refl _, Evo.refl _ _ _⟩

theorem HR_move {o : Oper} {x : Operand} (ho : o.op = .move x ∨ o.op = .assign x) (hok : operOk N o = true) (h : K (hev T x) H) : HQ P N o T H K :=
  fun B Z G FP ds a w hs => ⟨a.eval x, hev T x, by rcases ho with ho | ho <;> simp [execOp, ho], h, hs.hev x (opds_mem hok (by rcases ho with ho | ho <;> simp [ho, Op.operands]))⟩

theorem HR_pick {o : Oper} {c x y : Operand} {t : Bool} (ho : o.op = .pick c x y) (hok : operOk N o = true) (hc : hev T c = .v (.bool t)) (h : K (if t = true then hev T x else hev T y) H) : HQ P N o T H K :=
  fun B Z G FP ds a w hs => by
    have h1 := hs.hev c (opds_mem hok (by simp [ho, Op.operands]))
    rw [hc] at h1
    have h1 := RV_v h1
    refine ⟨if t = true then a.eval x else a.eval y, _, ?_, h, ?_⟩
    · simp [execOp, ho, h1, asBool]
    · split
      · exact hs.hev x (opds_mem hok (by simp [ho, Op.operands]))
      · exact hs.hev y (opds_mem hok (by simp [ho, Op.operands]))

theorem run_equalIn_bool (d : Nat) {t : TypeId} (hb : P.underlying t = some .bool) (x y : Bool) : (Op.equalIn (d + 1) t (.bool x) (.bool y)).run P w = .ok (x == y) w := by
  simp [Op.equalIn, run_underlying hb]
theorem run_equalIn_nil (d : Nat) {t : TypeId} {ms : Array (String × TypeId)} (hb : P.underlying t = some (.interface ms)) : (Op.equalIn (d + 1) t .nilIface .nilIface).run P w = .ok true w := by
  simp [Op.equalIn, run_underlying hb]
theorem run_equalIn_held (d : Nat) {t u : TypeId} {z : Value} {ms : Array (String × TypeId)} (hb : P.underlying t = some (.interface ms)) : (Op.equalIn (d + 1) t (.iface u z) .nilIface).run P w = .ok false w := by
  simp [Op.equalIn, run_underlying hb]
theorem run_equalIn_nilslice (d : Nat) {t e : TypeId} (hb : P.underlying t = some (.slice e)) : (Op.equalIn (d + 1) t (.slice none 0 0) (.slice none 0 0)).run P w = .ok true w := by
  simp [Op.equalIn, run_underlying hb]

theorem kind_of {x : TI} {t : TypeId} (h : ti P t = some x) : kindIs P t x.kind = true := by
  unfold kindIs; rw [h]; simp

/-- One cell taken out of a struct. -/
theorem part_cell {t : TypeId} {x : TI} (h : ti P t = some x) (hk : x.kind = 8 ∨ x.kind = 4 ∨ x.kind = 7) {ys : Array Value} {i : Nat} {y : Value} (hy : ys[i]? = some y) : (part t ys i).run P w = .ok y w := by
  have hag : (isAgg t).run P w = .ok false w := by rw [run_isAgg h]; simp only [TI.agg]; rcases hk with e | e | e <;> rw [e] <;> rfl
  simp [part, hag, hy]

theorem eqFields_run (d : Nat) (xs ys : Array Value) : ∀ (fs : List Field) (k : Nat) (ks : List Nat) (a b : List HV) (r : Bool), flatK P k fs = some ks → eqK ks a b = some r →
    RL Z G w a (xs.toList.drop k) [] → RL Z G w b (ys.toList.drop k) [] → (Op.eqFields (d + 1) xs ys fs).run P w = .ok r w
  | [], k, ks, a, b, r, hf, he, _, _ => by
    simp only [flatK, Option.some.injEq] at hf
    subst hf
    unfold eqK at he
    split at he <;> simp_all [Op.eqFields]
  | f :: fs, k, ks, a, b, r, hf, he, ha, hb => by
    simp only [flatK] at hf
    split at hf
    · rename_i x ks' hx hks
      split at hf
      · rename_i hc
        obtain ⟨hn, ho, hk, hsz⟩ := hc
        obtain rfl := Option.some.inj hf
        have go : ∀ (va vb : Value) (a' b' : List HV) (e r' : Bool), RV Z G w (.v va) va [] → (Op.equalIn (d + 1) f.type va vb).run P w = .ok e w → eqK ks' a' b' = some r' →
            RL Z G w (.v va :: a') (xs.toList.drop k) [] → RL Z G w (.v vb :: b') (ys.toList.drop k) [] → (Op.eqFields (d + 1) xs ys (f :: fs)).run P w = .ok (e && r') w := by
          intro va vb a' b' e r' _ h1 h2 h3 h4
          simp only [RL] at h3 h4
          obtain ⟨y1, t1, f1, f2, e1, e2, e3, e4⟩ := h3
          obtain ⟨y2, t2, f3, f4, g1, g2, g3, g4⟩ := h4
          obtain ⟨rfl, rfl⟩ := List.append_eq_nil_iff.1 e2.symm
          obtain ⟨rfl, rfl⟩ := List.append_eq_nil_iff.1 g2.symm
          have q1 := RV_v e3; have q2 := RV_v g3
          subst q1 q2
          have p1 : xs[k]? = some y1 := by
            have := congrArg (·[0]?) e1; simpa [List.getElem?_drop] using this
          have p2 : ys[k]? = some y2 := by
            have := congrArg (·[0]?) g1; simpa [List.getElem?_drop] using this
          have d1 : xs.toList.drop (k + 1) = t1 := by rw [← List.drop_drop, e1]; rfl
          have d2 : ys.toList.drop (k + 1) = t2 := by rw [← List.drop_drop, g1]; rfl
          have ih := eqFields_run d xs ys fs (k + 1) ks' a' b' r' hks h2 (by rw [d1]; exact e4) (by rw [d2]; exact g4)
          simp only [Op.eqFields, if_pos hn, Sem.run_bind, ho, part_cell hx hk p1, part_cell hx hk p2, h1, Result.andThen_ok, Sem.run_ite]
          cases e with
          | true => simpa using ih
          | false => simp
        unfold eqK at he
        split at he
        · rename_i e1; cases e1
        · rename_i k' ks'' i u a' j v b' e1
          cases e1
          split at he
          · rename_i hc
            obtain ⟨hc1, rfl⟩ := hc
            cases hr : eqK ks' a' b' with
            | none => rw [hr] at he; cases he
            | some r' =>
              rw [hr] at he
              obtain rfl := Option.some.inj he
              have hu := kind_int (hc1 ▸ kind_of hx)
              obtain ⟨ik, hu⟩ := hu
              exact go _ _ a' b' _ r' (by simp [RV]) (by rw [run_equalIn_int w d f.type i ik u v hu]; by_cases h : u = v <;> simp [h]) hr ha hb
          · cases he
        · rename_i k' ks'' u a' v b' e1
          cases e1
          split at he
          · rename_i hc
            cases hr : eqK ks' a' b' with
            | none => rw [hr] at he; cases he
            | some r' =>
              rw [hr] at he
              obtain rfl := Option.some.inj he
              exact go _ _ a' b' _ r' (by simp [RV]) (by rw [run_equalIn_string w d f.type u v (kind_string (hc ▸ kind_of hx)), toList_bl, toList_bl, lbeq]) hr ha hb
          · cases he
        · rename_i k' ks'' u a' v b' e1
          cases e1
          split at he
          · rename_i hc
            cases hr : eqK ks' a' b' with
            | none => rw [hr] at he; cases he
            | some r' =>
              rw [hr] at he
              obtain rfl := Option.some.inj he
              exact go _ _ a' b' _ r' (by simp [RV]) (by rw [run_equalIn_bool' w d f.type u v (kind_bool (hc ▸ kind_of hx))]; cases u <;> cases v <;> rfl) hr ha hb
          · cases he
        · cases he
      · cases hf
    · cases hf

theorem run_eqAg {t : TypeId} {ks : List Nat} {a b : List HV} {xs ys : Array Value} {r : Bool} (h : eqKinds P t = some ks) (hr : eqK ks a b = some r) (ha : RL Z G w a xs.toList []) (hb : RL Z G w b ys.toList []) :
    (Op.equal t (.agg xs) (.agg ys)).run P w = .ok r w ∧ P.eqGuardType P.depth t = false := by
  unfold eqKinds at h
  split at h
  · rename_i fs hu
    split at h
    · rename_i hc
      refine ⟨?_, hc.2⟩
      have hf : P.fieldsOf t = fs := by unfold Program.fieldsOf; rw [hu]
      have := run_equalIn_struct (P := P) w 9999 t xs ys (by rw [hf]; exact hu) hc.1
      rw [hf] at this
      exact this.trans (eqFields_run 9998 xs ys fs.toList 0 ks a b r h hr (by simpa using ha) (by simpa using hb))
    · cases h
  · cases h

theorem run_eqRes {t : TypeId} {va vb v : Value} {b : Bool} {op : BinOp} (hb1 : ∀ op, op = .eql ∨ op = .neq → binOp op t va vb = (do let r ← Op.equal t va vb; pure (.bool (if op = .eql then r else !r)))) (h : (Op.equal t va vb).run P w = .ok b w) (hr : eqRes op b = some v) :
    (binOp op t va vb).run P w = .ok v w := by
  unfold eqRes at hr
  split at hr
  · rw [hb1 _ (.inl rfl)]; simp only [Sem.run_bind, h, Result.andThen_ok, Sem.run_pure]; simpa using hr
  · rw [hb1 _ (.inr rfl)]; simp only [Sem.run_bind, h, Result.andThen_ok, Sem.run_pure]; simpa using hr
  · cases hr

theorem run_intRes {op : BinOp} {t : TypeId} {k : IntKind} {x y : Int} {v : Value} (h : intRes op k x y = some v) : (binOp op t (.int k x) (.int k y)).run P w = .ok v w := by
  unfold intRes at h
  split at h <;> first
    | (cases h; done)
    | (obtain rfl := Option.some.inj h; first | (simp only [binOp, Op.intArith, ne_eq, not_true, if_false]; rfl) | (simp only [binOp, Op.intCmp, ne_eq, not_true, if_false, Sem.run_pure]; congr 2; first | rfl | (simp [bne]; done)))
    | (split at h
       · cases h
       · rename_i hy; obtain rfl := Option.some.inj h; simp only [binOp, Op.intDiv, ne_eq, not_true, if_false, hy]; rfl)

theorem run_strRes {op : BinOp} {t : TypeId} {x y : ByteArray} {v : Value} (h : strRes op x y = some v) : (binOp op t (.string x) (.string y)).run P w = .ok v w := by
  unfold strRes at h
  split at h <;> first
    | (cases h; done)
    | (obtain rfl := Option.some.inj h; simp only [binOp, Op.stringOp, toList_bl, lbeq, Sem.run_pure]; done)
    | (split at h
       · rename_i hs
         obtain rfl := Option.some.inj h
         simp only [binOp, Op.stringOp]
         rw [if_neg (by have : IntKind.i64.max = 9223372036854775807 := by decide
                        rw [this]; omega)]
         rfl
       · cases h)

theorem hbin_run {op : BinOp} {t : TypeId} {a b : HV} {Kv : HV → Prop} {x y : Operand} {va vb : Value} (ha : RV Z G w a va []) (hb : RV Z G w b vb []) (h : hbin P op t (isC x || isC y) a b Kv) :
    ∃ v h', (eqGuard op t x y va vb).run P w = .ok () w ∧ (binOp op t va vb).run P w = .ok v w ∧ Kv h' ∧ RV Z G w h' v [] := by
  unfold hbin at h
  split at h
  · rename_i v hres
    refine ⟨v, .v v, ?_, ?_, h, by simp [RV]⟩
    · unfold binRes at hres
      split at hres
      · rw [RV_v ha, RV_v hb]; cases op <;> rfl
      · rw [RV_v ha, RV_v hb]; cases op <;> rfl
      · rw [RV_v ha, RV_v hb]; cases op <;> rfl
      · simp only [RV] at ha; obtain ⟨_, z', rfl, _⟩ := ha; rw [RV_v hb]; cases op <;> rfl
      · rw [RV_v ha, RV_v hb]
        split at hres
        · rename_i hk
          cases x <;> cases y <;> simp [isC] at hk <;> cases op <;> rfl
        · cases hres
      · rw [RV_v ha, RV_v hb]; cases op <;> rfl
      · rename_i as bs
        simp only [RV] at ha hb
        obtain ⟨xs, rfl, ha⟩ := ha
        obtain ⟨ys, rfl, hb⟩ := hb
        cases hk : eqKinds P t with
        | none => rw [hk] at hres; cases hres
        | some ks =>
          rw [hk] at hres
          simp only [Option.bind_some] at hres
          cases hq : eqK ks as bs with
          | none => rw [hq] at hres; cases hres
          | some r => exact run_eqGuard_agg w op t x y xs ys (run_eqAg hk hq ha hb).2
      · cases hres
    · unfold binRes at hres
      split at hres
      · rw [RV_v ha, RV_v hb]
        split at hres
        · rename_i hk; subst hk; exact run_intRes hres
        · cases hres
      · rw [RV_v ha, RV_v hb]; exact run_strRes hres
      · rw [RV_v ha, RV_v hb]
        split at hres
        · rename_i hk
          exact run_eqRes (fun op ho => by rcases ho with rfl | rfl <;> rfl) (run_equalIn_bool 9999 (kind_bool hk) _ _) (by simpa [BEq.beq] using hres)
        · cases hres
      · simp only [RV] at ha; obtain ⟨_, z', rfl, _⟩ := ha; rw [RV_v hb]
        split at hres
        · rename_i hk
          obtain ⟨ms, hu⟩ := kind_iface hk
          exact run_eqRes (fun op ho => by rcases ho with rfl | rfl <;> rfl) (run_equalIn_held 9999 hu) hres
        · cases hres
      · rw [RV_v ha, RV_v hb]
        split at hres
        · rename_i hk
          obtain ⟨ms, hu⟩ := kind_iface hk.1
          exact run_eqRes (fun op ho => by rcases ho with rfl | rfl <;> rfl) (run_equalIn_nil 9999 hu) hres
        · cases hres
      · rw [RV_v ha, RV_v hb]
        split at hres
        · rename_i hk
          obtain ⟨e, hu⟩ := kind_slice hk
          exact run_eqRes (fun op ho => by rcases ho with rfl | rfl <;> rfl) (run_equalIn_nilslice 9999 hu) hres
        · cases hres
      · rename_i as bs
        simp only [RV] at ha hb
        obtain ⟨xs, rfl, ha⟩ := ha
        obtain ⟨ys, rfl, hb⟩ := hb
        cases hk : eqKinds P t with
        | none => rw [hk] at hres; cases hres
        | some ks =>
          rw [hk] at hres
          simp only [Option.bind_some] at hres
          cases hq : eqK ks as bs with
          | none => rw [hq] at hres; cases hres
          | some r =>
            rw [hq] at hres
            exact run_eqRes (fun op ho => by rcases ho with rfl | rfl <;> rfl) (run_eqAg hk hq ha hb).1 hres
      · cases hres
  · exact h.elim

theorem HR_bin {o : Oper} {op : BinOp} {t t' : TypeId} {x y : Operand} (ho : o.op = .binOp op t x y t') (hok : operOk N o = true) (h : hbin P op t (isC x || isC y) (hev T x) (hev T y) (fun v => K v H)) : HQ P N o T H K :=
  fun B Z G FP ds a w hs => by
    obtain ⟨v, h', h1, h2, h3, h4⟩ := hbin_run (hs.hev x (opds_mem hok (by simp [ho, Op.operands]))) (hs.hev y (opds_mem hok (by simp [ho, Op.operands]))) h
    exact ⟨v, h', by simp only [execOp, ho, Sem.run_bind, h1, h2, Result.andThen_ok, Sem.run_pure], h3, h4⟩
end
end Go.Proofs.YtcpefnjofekibaaDoor
