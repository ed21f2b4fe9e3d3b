/- Part I of the engine: places, parts, lengths, cuts. -/
import Derived.Test.YtcpefnjofekibaaDoorHiH
namespace Go.Proofs.YtcpefnjofekibaaDoor
open Go.RowKit
set_option linter.unusedVariables false
set_option linter.unusedSimpArgs false

/-- Is a pointer one that leads somewhere? -/
def liveAt (H : Heap) (a : HV) : Bool :=
  match a with
  | .pt id n _ _ => match H[id]? with | some (some ob) => n == ob.rows.length && ob.rows.length != 0 | _ => false
  | .fp _ _ _ => true
  | _ => false

def moved (a : HV) (k : Nat) : HV :=
  match a with
  | .pt id n r o => .pt id n r (o + k)
  | .fp rows i o => .fp rows i (o + k)
  | x => x

/-- Where a field begins, and how many cells it has. -/
def fldAt (P : Program) (s : TypeId) (i : Nat) : Option (Nat × TI) :=
  match ti P s with
  | some x =>
    if x.kind = 1 then
      match x.flds[i]? with
      | some (off, ft) => (ti P ft).map fun fx => (off, fx)
      | none => none
    else none
  | none => none

def hfieldAddr (P : Program) (H : Heap) (s : TypeId) (a : HV) (i : Nat) (K : KT) : Prop :=
  match fldAt P s i with
  | some (off, fx) => fx.size ≠ 0 ∧ liveAt H a = true ∧ K (moved a off) H
  | none => False

def hfield (P : Program) (H : Heap) (s : TypeId) (a : HV) (i : Nat) (K : KT) : Prop :=
  match fldAt P s i with
  | some (off, fx) =>
    match a with
    | .ag cs => okTI fx = true ∧ off + fx.size ≤ cs.length ∧ K (mkV fx ((cs.drop off).take fx.size)) H
    | _ => False
  | none => False

/-- The type of a slice's elements. -/
def elemTI (P : Program) (t : TypeId) (kind : Nat) : Option (TI × TypeId × TI) :=
  match ti P t with
  | some x => if x.kind = kind then (ti P x.elem).map fun y => (x, x.elem, y) else none
  | none => none

def hindexAddr (P : Program) (H : Heap) (t : TypeId) (a i : HV) (K : KT) : Prop :=
  match i with
  | .v (.int k z) =>
    match a with
    | .sl rows =>
      match elemTI P t 3 with
      | some (_, _, e) => 0 ≤ z ∧ z < (rows.length : Int) ∧ (∀ r ∈ rows, r.length = e.size) ∧ K (.fp rows z.toNat 0) H
      | none => False
    | .hd id off len =>
      match elemTI P t 3 with
      | some (_, _, e) =>
        match H[id]? with
        | some (some ob) => off + len = ob.rows.length ∧ ob.sz = e.size ∧ 0 ≤ z ∧ z < (len : Int) ∧ K (.pt id ob.rows.length (off + z.toNat) 0) H
        | _ => False
      | none => False
    | x =>
      match elemTI P t 2 with
      | some (arr, _, e) => liveAt H x = true ∧ 0 ≤ z ∧ z < (arr.num : Int) ∧ K (moved x (z.toNat * e.size)) H
      | none => False
  | _ => False

def hindex (P : Program) (H : Heap) (t : TypeId) (a i : HV) (K : KT) : Prop :=
  match a, i with
  | .v (.string s), .v (.int k z) =>
    kindIs P t 4 = true ∧ 0 ≤ z ∧ (match (bl s)[z.toNat]? with
      | some b => K (.v (.int .u8 (b.toNat : Int))) H
      | none => False)
  | .ag cs, .v (.int k z) =>
    match elemTI P t 2 with
    | some (arr, _, e) => okTI e = true ∧ 0 ≤ z ∧ z < (arr.num : Int) ∧ z.toNat * e.size + e.size ≤ cs.length ∧ K (mkV e ((cs.drop (z.toNat * e.size)).take e.size)) H
    | none => False
  | _, _ => False

/-- The bounds of a cut. -/
def cutLo (T : Nat → HV) : Option Operand → Option Int
  | none => some 0
  | some x => match hev T x with | .v (.int _ z) => some z | _ => none
def cutHi (T : Nat → HV) (n : Nat) : Option Operand → Option Int
  | none => some (n : Int)
  | some x => match hev T x with | .v (.int _ z) => some z | _ => none

def hcut (P : Program) (T : Nat → HV) (H : Heap) (t : TypeId) (x : HV) (lo hi : Option Operand) (K : KT) : Prop :=
  match x with
  | .v (.string s) =>
    match cutLo T lo, cutHi T s.size hi with
    | some l, some h => kindIs P t 4 = true ∧ 0 ≤ l ∧ l ≤ h ∧ h ≤ (s.size : Int) ∧ K (.v (.string (s.extract l.toNat h.toNat))) H
    | _, _ => False
  | .sl rows =>
    match elemTI P t 3, cutLo T lo, cutHi T rows.length hi with
    | some (_, _, e), some l, some h => (∀ r ∈ rows, r.length = e.size) ∧ 0 ≤ l ∧ l ≤ h ∧ h ≤ (rows.length : Int) ∧ K (.sl ((rows.drop l.toNat).take (h.toNat - l.toNat))) H
    | _, _, _ => False
  | .hd id off len =>
    match elemTI P t 3, cutLo T lo, cutHi T len hi with
    | some (_, _, e), some l, some h =>
      match H[id]? with
      | some (some ob) => off + len = ob.rows.length ∧ ob.sz = e.size ∧ 0 ≤ l ∧ l ≤ h ∧ h = (len : Int) ∧ K (.hd id (off + l.toNat) (len - l.toNat)) H
      | _ => False
    | _, _, _ => False
  | _ => False

def hlen (P : Program) (H : Heap) (t : TypeId) (x : HV) (K : KT) : Prop :=
  match x with
  | .v (.string s) => kindIs P t 4 = true ∧ K (.v (.int .i64 (s.size : Int))) H
  | .v (.slice none 0 0) => kindIs P t 3 = true ∧ K (.v (.int .i64 0)) H
  | .sl rows => kindIs P t 3 = true ∧ K (.v (.int .i64 (rows.length : Int))) H
  | .hd id off len =>
    match H[id]? with
    | some (some ob) => off + len = ob.rows.length ∧ kindIs P t 3 = true ∧ K (.v (.int .i64 (len : Int))) H
    | _ => False
  | _ => False

section
variable {P : Program} {N : Nat} {T : Nat → HV} {H : Heap} {K : KT} {Z : Nat → Prop} {G : List (Option OG)} {FP : Nat → List Nat} {w : World}

theorem add_lit (b o k : Nat) : (⟨b, o, none⟩ : Addr).add k = ⟨b, o + k, none⟩ := by unfold Addr.add; split <;> simp_all

theorem live_at (hi : HInv Z G FP H w) {a : HV} {y : Value} (hl : liveAt H a = true) (hv : RV Z G w a y []) : ∃ b o, y = .pointer (some ⟨b, o, none⟩) ∧ ∀ k, RV Z G w (moved a k) (.pointer (some ⟨b, o + k, none⟩)) [] := by
  unfold liveAt at hl
  split at hl
  · rename_i id n r o
    split at hl
    · rename_i ob ho
      simp only [Bool.and_eq_true, beq_iff_eq, bne_iff_ne] at hl
      obtain ⟨g, hg, hob⟩ := hi.live id ob ho
      simp only [RV] at hv
      obtain ⟨_, _, hlt, h⟩ := hv
      obtain ⟨b, hb, rfl⟩ := (h g hg).2 (by rw [hl.1, hob.n])
      refine ⟨b, _, rfl, fun k => ?_⟩
      simp only [moved, RV]
      refine ⟨trivial, rfl, hlt, fun g' hg' => ⟨(h g' hg').1, fun e => ?_⟩⟩
      rw [hg] at hg'
      cases hg'
      exact ⟨b, hb, by rw [Nat.add_assoc]⟩
    · cases hl
  · rename_i rows i o
    simp only [RV] at hv
    obtain ⟨_, b, k, rfl, hz, hu, hrr⟩ := hv
    refine ⟨b, _, rfl, fun q => ?_⟩
    simp only [moved, RV]
    exact ⟨trivial, b, k, by rw [Nat.add_assoc], hz, hu, hrr⟩
  · cases hl

theorem fldAt_spec {s : TypeId} {i off : Nat} {fx : TI} (h : fldAt P s i = some (off, fx)) : ∃ fs f, P.underlying s = some (.struct fs) ∧ fs[i]? = some f ∧ f.offset = off ∧ ti P f.type = some fx := by
  unfold fldAt at h
  split at h
  · rename_i x hx
    obtain ⟨d, inf, hd, hi, rfl⟩ := ti_spec hx
    split at h
    · rename_i hk
      rw [TI.of_kind] at hk
      cases d <;> simp at hk
      rename_i fs
      simp only [TI.of, List.getElem?_map] at h
      cases hf : fs[i]? with
      | none => rw [Array.getElem?_toList] at h; simp [hf] at h
      | some f =>
        rw [Array.getElem?_toList, hf] at h
        simp only [Option.map_some] at h
        cases ht : ti P f.type with
        | none => simp [ht] at h
        | some fx' =>
          simp [ht] at h
          exact ⟨fs, f, hd, hf, h.1, h.2 ▸ ht⟩
    · cases h
  · cases h

theorem HR_fieldAddr {o : Oper} {s : TypeId} {a : Operand} {i : Nat} (ho : o.op = .fieldAddr s a i) (hok : operOk N o = true) (h : hfieldAddr P H s (hev T a) i K) : HQ P N o T H K :=
  fun B Z G FP ds act w hs => by
    unfold hfieldAddr at h
    split at h
    · rename_i off fx hf
      obtain ⟨hz, hl, hK⟩ := h
      obtain ⟨fs, f, hu, hfi, rfl, ht⟩ := fldAt_spec hf
      obtain ⟨b, q, hy, hm⟩ := live_at hs.inv hl (hs.hev a (opds_mem hok (by simp [ho, Op.operands])))
      refine ⟨.pointer (some ⟨b, q + f.offset, none⟩), _, ?_, hK, hm _⟩
      simp [execOp, ho, Instr.fieldAt, run_underlying hu, hfi, hy, Instr.sureAddr, fieldPlace, run_sizeOf ht, hz, add_lit]
    · exact h.elim

theorem run_part {t : TypeId} {x : TI} (hx : ti P t = some x) (hk : okTI x = true) {ys : Array Value} {off : Nat} (hsz : off + x.size ≤ ys.size) :
    (part t ys off).run P w = .ok (if x.agg then .agg ((ys.toList.drop off).take x.size).toArray else ((ys.toList.drop off).take x.size).headD undef) w := by
  unfold part
  simp only [Sem.run_bind, run_isAgg hx, Result.andThen_ok]
  cases hg : x.agg with
  | true =>
    simp only [if_true, Sem.run_bind, run_sizeOf hx, Result.andThen_ok, Sem.run_pure]
    congr 2
    apply Array.ext'
    rw [Array.toList_extract]
    simp [List.extract_eq_take_drop, List.take_drop]
  | false =>
    have h1 := okTI_one hk hg
    rw [h1] at hsz ⊢
    simp only [Bool.false_eq_true, if_false]
    have hlt : off < ys.size := by omega
    have : ys[off]? = some ys[off] := by simp [hlt]
    rw [this]
    simp only [Sem.run_pure]
    rw [List.drop_eq_getElem_cons (by simpa using hlt)]
    simp

theorem HR_field {o : Oper} {s : TypeId} {a : Operand} {i : Nat} (ho : o.op = .field s a i) (hok : operOk N o = true) (h : hfield P H s (hev T a) i K) : HQ P N o T H K :=
  fun B Z G FP ds act w hs => by
    unfold hfield at h
    split at h
    · rename_i off fx hf
      split at h
      · rename_i cs hcs
        obtain ⟨hk, hsz, hK⟩ := h
        obtain ⟨fs, f, hu, hfi, rfl, ht⟩ := fldAt_spec hf
        have hv := hs.hev a (opds_mem hok (by simp [ho, Op.operands]))
        rw [hcs] at hv
        simp only [RV] at hv
        obtain ⟨ys, hy, hl⟩ := hv
        have hlen := RL_length _ _ _ hl
        have hnil : tvs ((cs.drop f.offset).take fx.size) = true ∨ True := .inr trivial
        obtain ⟨f1, f2, hf12, _, h2⟩ := RL_split _ _ _ f.offset hl
        obtain ⟨f3, f4, hf34, h3, _⟩ := RL_split _ _ _ fx.size h2
        have e2 : f2 = [] := (List.append_eq_nil_iff.1 hf12.symm).2
        subst e2
        have e3 : f3 = [] := (List.append_eq_nil_iff.1 hf34.symm).1
        subst e3
        refine ⟨_, _, ?_, hK, mkV_RV hk (by simp; rw [Array.length_toList] at hlen; omega) h3⟩
        simp only [execOp, ho, Instr.field, Sem.run_bind, run_underlying hu, Result.andThen_ok, hfi, hy, asAgg, Sem.run_pure]
        rw [run_part ht hk (by rw [Array.length_toList] at hlen; omega)]
        rfl
      · exact h.elim
    · exact h.elim

theorem elemTI_spec {t : TypeId} {kind : Nat} {x y : TI} {e : TypeId} (h : elemTI P t kind = some (x, e, y)) : ∃ d i, P.underlying t = some d ∧ x = TI.of d i ∧ x.kind = kind ∧ e = x.elem ∧ ti P e = some y := by
  unfold elemTI at h
  split at h
  · rename_i x' hx
    obtain ⟨d, i, hd, hi, rfl⟩ := ti_spec hx
    split at h
    · rename_i hk
      cases he : ti P (TI.of d i).elem with
      | none => simp [he] at h
      | some y' =>
        simp [he] at h
        obtain ⟨rfl, rfl, rfl⟩ := h
        exact ⟨d, i, hd, rfl, hk, rfl, he⟩
    · cases h
  · cases h

theorem elem_slice {t : TypeId} {x y : TI} {e : TypeId} (h : elemTI P t 3 = some (x, e, y)) : P.underlying t = some (.slice e) ∧ ti P e = some y := by
  obtain ⟨d, i, hd, rfl, hk, rfl, he⟩ := elemTI_spec h
  rw [TI.of_kind] at hk
  cases d <;> simp at hk
  exact ⟨hd, he⟩

theorem elem_array {t : TypeId} {x y : TI} {e : TypeId} (h : elemTI P t 2 = some (x, e, y)) : P.underlying t = some (.array x.num e) ∧ ti P e = some y := by
  obtain ⟨d, i, hd, rfl, hk, rfl, he⟩ := elemTI_spec h
  rw [TI.of_kind] at hk
  cases d <;> simp at hk
  exact ⟨hd, he⟩

theorem rowLen_of {rows : List (List HV)} {n : Nat} (h : ∀ r ∈ rows, r.length = n) (hne : rows ≠ []) : rowLen rows = n := by
  cases rows with
  | nil => exact absurd rfl hne
  | cons r t => simp only [rowLen, List.headD_cons]; exact h r (by simp)

/-- A named slice, where it lies. -/
theorem hd_at {id off len : Nat} {y : Value} {ob : HObj} (hi : HInv Z G FP H w) (ho : H[id]? = some (some ob)) (hn : off + len = ob.rows.length) (hv : RV Z G w (.hd id off len) y []) :
    ∃ g, G[id]? = some (some g) ∧ OB Z G w ob g (FP id) ∧ View g off len y := by
  obtain ⟨g, hg, hob⟩ := hi.live id ob ho
  simp only [RV] at hv
  exact ⟨g, hg, hob, (hv.2.2.2 g hg).2 (by rw [hn, hob.n])⟩

theorem run_indexAt_slice {t e : TypeId} {te : TI} (hu : P.underlying t = some (.slice e)) (he : ti P e = some te) {b o len cap : Nat} {k : IntKind} {z : Int} (h0 : 0 ≤ z) (h1 : z < (len : Int)) :
    (Instr.indexAt t (.slice (some ⟨b, o, none⟩) len cap) (.int k z)).run P w = .ok (.pointer (some ⟨b, o + z.toNat * te.size, none⟩)) w := by
  simp [Instr.indexAt, asIntOf, run_underlying hu, h0, h1, run_sizeOf he, add_lit]

theorem run_indexAt_array {t e : TypeId} {te : TI} {n : Nat} (hu : P.underlying t = some (.array n e)) (he : ti P e = some te) {b o : Nat} {k : IntKind} {z : Int} (h0 : 0 ≤ z) (h1 : z < (n : Int)) :
    (Instr.indexAt t (.pointer (some ⟨b, o, none⟩)) (.int k z)).run P w = .ok (.pointer (some ⟨b, o + z.toNat * te.size, none⟩)) w := by
  simp [Instr.indexAt, asIntOf, run_underlying hu, h0, h1, run_sizeOf he, add_lit, Instr.sureAddr]

theorem HR_indexAddr {o : Oper} {t : TypeId} {a i : Operand} (ho : o.op = .indexAddr t a i) (hok : operOk N o = true) (h : hindexAddr P H t (hev T a) (hev T i) K) : HQ P N o T H K :=
  fun B Z G FP ds act w hs => by
    have ha := hs.hev a (opds_mem hok (by simp [ho, Op.operands]))
    have hi := hs.hev i (opds_mem hok (by simp [ho, Op.operands]))
    unfold hindexAddr at h
    split at h
    · rename_i k z hz
      rw [hz] at hi
      have hi := RV_v hi
      split at h
      · rename_i rows hr
        split at h
        · rename_i x e te he
          obtain ⟨h0, h1, hu, hK⟩ := h
          obtain ⟨hs1, hs2⟩ := elem_slice he
          rw [hr] at ha
          have ha' := ha
          simp only [RV] at ha
          obtain ⟨_, ad, c, hy, hc, hm, hx⟩ := ha
          have hne : rows ≠ [] := fun e => by subst e; simp at h1; omega
          rcases hx with hx | ⟨b, q, rfl, hzb, hun, hrr⟩
          · exact absurd hx hne
          · refine ⟨.pointer (some ⟨b, q + z.toNat * te.size, none⟩), _, ?_, hK, ?_⟩
            · simp only [execOp, ho, hy, hi, Sem.run_bind, run_indexAt_slice hs1 hs2 h0 h1, Result.andThen_ok, Sem.run_pure]
            · simp only [RV]
              exact ⟨trivial, b, q, by rw [rowLen_of hu hne, Nat.add_zero], hzb, hun, hrr⟩
        · exact h.elim
      · rename_i id off len hr
        split at h
        · rename_i x e te he
          split at h
          · rename_i ob hob
            obtain ⟨hn, hsz, h0, h1, hK⟩ := h
            obtain ⟨hs1, hs2⟩ := elem_slice he
            rw [hr] at ha
            obtain ⟨g, hg, hOB, hview⟩ := hd_at hs.inv hob hn ha
            unfold View at hview
            split at hview
            · rename_i hbn
              obtain ⟨hview, hv1, hv2⟩ := hview
              rcases hOB.at_ with ⟨_, e1, _⟩ | ⟨b, cells, f, e1, _⟩ | ⟨u3, hs3, obj3, f3, e1, e3, _⟩
              · rw [e1] at hn; simp at hn; omega
              · rw [hbn] at e1; cases e1
              · have := congrArg List.length e3; simp only [List.length_cons, List.length_nil] at this; omega
            · rename_i b hb
              obtain ⟨ad, hy, hA⟩ := hview
              have hlen0 : len ≠ 0 := by omega
              rw [hA (.inl hlen0)] at hy
              refine ⟨.pointer (some ⟨b, off * g.sz + z.toNat * te.size, none⟩), _, ?_, hK, ?_⟩
              · simp only [execOp, ho, hy, hi, Sem.run_bind, run_indexAt_slice hs1 hs2 h0 h1, Result.andThen_ok, Sem.run_pure]
              · simp only [RV]
                refine ⟨trivial, rfl, hs.inv.lt hob, fun g' hg' => ?_⟩
                rw [hg] at hg'; cases hg'
                refine ⟨by rw [hOB.n]; exact Nat.le_refl _, fun _ => ⟨b, hb, ?_⟩⟩
                rw [hOB.sz, hsz, Nat.add_mul, Nat.add_zero]
          · exact h.elim
        · exact h.elim
      · split at h
        · rename_i x e te he
          obtain ⟨hl, h0, h1, hK⟩ := h
          obtain ⟨hs1, hs2⟩ := elem_array he
          obtain ⟨b, q, hy, hm⟩ := live_at hs.inv hl ha
          refine ⟨.pointer (some ⟨b, q + z.toNat * te.size, none⟩), _, ?_, hK, hm _⟩
          simp only [execOp, ho, hy, hi, Sem.run_bind, run_indexAt_array hs1 hs2 h0 h1, Result.andThen_ok, Sem.run_pure]
        · exact h.elim
    · exact h.elim

theorem HR_len {o : Oper} {t : TypeId} {x : Operand} (ho : o.op = .call { callee := .builtin .len, args := #[x], argTypes := #[t] }) (hok : operOk N o = true) (h : hlen P H t (hev T x) K) : HQ P N o T H K :=
  fun B Z G FP ds act w hs => by
    have hx := hs.hev x (opds_mem hok (by simp [ho, Op.operands, Call.operands]))
    unfold hlen at h
    split at h
    · rename_i s e
      rw [e] at hx
      have hx := RV_v hx
      refine ⟨_, _, ?_, h.2, by simp [RV]; rfl⟩
      simp [execOp, ho, resolve, invoke, builtin, Builtin.len_, run_underlying (kind_string h.1), hx, goInt]
    · rename_i e
      rw [e] at hx
      have hx := RV_v hx
      obtain ⟨el, hu⟩ := kind_slice h.1
      refine ⟨_, _, ?_, h.2, by simp [RV]; rfl⟩
      simp [execOp, ho, resolve, invoke, builtin, Builtin.len_, run_underlying hu, hx, goInt]
    · rename_i rows e
      rw [e] at hx
      simp only [RV] at hx
      obtain ⟨_, ad, c, hy, _⟩ := hx
      obtain ⟨el, hu⟩ := kind_slice h.1
      refine ⟨_, _, ?_, h.2, by simp [RV]; rfl⟩
      simp [execOp, ho, resolve, invoke, builtin, Builtin.len_, run_underlying hu, hy, goInt]
    · rename_i id off len e
      split at h
      · rename_i ob hob
        obtain ⟨hn, hk, hK⟩ := h
        rw [e] at hx
        obtain ⟨g, hg, hOB, hview⟩ := hd_at hs.inv hob hn hx
        obtain ⟨el, hu⟩ := kind_slice hk
        unfold View at hview
        split at hview
        · rename_i hbn
          obtain ⟨hview, hv1, hv2⟩ := hview
          have hl0 : len = 0 := by
            rcases hOB.at_ with ⟨_, e1, _⟩ | ⟨b, cells, f, e1, _⟩ | ⟨u3, hs3, obj3, f3, e1, e3, _⟩
            · rw [e1] at hn; simp at hn; omega
            · rw [hbn] at e1; cases e1
            · have := congrArg List.length e3; simp only [List.length_cons, List.length_nil] at this; omega
          subst hl0
          refine ⟨_, _, ?_, hK, by simp [RV]; rfl⟩
          simp [execOp, ho, resolve, invoke, builtin, Builtin.len_, run_underlying hu, hview, goInt]
        · obtain ⟨ad, hy, _⟩ := hview
          refine ⟨_, _, ?_, hK, by simp [RV]; rfl⟩
          simp [execOp, ho, resolve, invoke, builtin, Builtin.len_, run_underlying hu, hy, goInt]
      · exact h.elim
    · exact h.elim
end
end Go.Proofs.YtcpefnjofekibaaDoor
