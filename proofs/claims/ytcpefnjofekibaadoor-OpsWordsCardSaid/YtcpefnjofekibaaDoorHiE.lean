/- Part E of the engine: types, cells read and written, objects opened. -/
import Derived.Test.YtcpefnjofekibaaDoorHiD
namespace Go.Proofs.YtcpefnjofekibaaDoor
open Go.RowKit
set_option linter.unusedVariables false
set_option linter.unusedSimpArgs false

/-- What is asked of a type. kind: 1 a struct, 2 an array, 3 a slice, 4 a string, 5 a map, 6 a pointer, 7 a bool, 8 an int, 9 an interface, 10 a function, 0 any other. -/
structure TI where
  kind : Nat
  size : Nat
  bytes : Nat
  zero : Option Value
  flds : List (Nat × TypeId)
  elem : TypeId
  num : Nat

def TI.of (d : TypeDesc) (i : TypeInfo) : TI :=
  match d with
  | .struct fs => ⟨1, i.size, i.bytes, i.zero, fs.toList.map fun f => (f.offset, f.type), 0, 0⟩
  | .array n e => ⟨2, i.size, i.bytes, i.zero, [], e, n⟩
  | .slice e => ⟨3, i.size, i.bytes, i.zero, [], e, 0⟩
  | .string => ⟨4, i.size, i.bytes, i.zero, [], 0, 0⟩
  | .map k e => ⟨5, i.size, i.bytes, i.zero, [], e, k⟩
  | .pointer e => ⟨6, i.size, i.bytes, i.zero, [], e, 0⟩
  | .bool => ⟨7, i.size, i.bytes, i.zero, [], 0, 0⟩
  | .int _ => ⟨8, i.size, i.bytes, i.zero, [], 0, 0⟩
  | .interface _ => ⟨9, i.size, i.bytes, i.zero, [], 0, 0⟩
  | .func _ _ _ => ⟨10, i.size, i.bytes, i.zero, [], 0, 0⟩
  | _ => ⟨0, i.size, i.bytes, i.zero, [], 0, 0⟩

def ti (P : Program) (t : TypeId) : Option TI :=
  match P.underlying t, P.info? t with
  | some d, some i => some (TI.of d i)
  | _, _ => none

def TI.agg (x : TI) : Bool := x.kind == 1 || x.kind == 2

theorem ti_spec {P : Program} {t : TypeId} {x : TI} (h : ti P t = some x) : ∃ d i, P.underlying t = some d ∧ P.info? t = some i ∧ x = TI.of d i := by
  unfold ti at h
  split at h
  · rename_i d i hd hi
    exact ⟨d, i, hd, hi, (Option.some.inj h).symm⟩
  · cases h

theorem TI.of_size (d : TypeDesc) (i : TypeInfo) : (TI.of d i).size = i.size := by unfold TI.of; split <;> rfl
theorem TI.of_bytes (d : TypeDesc) (i : TypeInfo) : (TI.of d i).bytes = i.bytes := by unfold TI.of; split <;> rfl
theorem TI.of_zero (d : TypeDesc) (i : TypeInfo) : (TI.of d i).zero = i.zero := by unfold TI.of; split <;> rfl
theorem TI.of_agg (d : TypeDesc) (i : TypeInfo) : (TI.of d i).agg = (match d with | .struct _ | .array _ _ => true | _ => false) := by unfold TI.of; split <;> simp [TI.agg]

section runs
variable {P : Program} {t : TypeId} {x : TI} {w : World}

theorem run_sizeOf (h : ti P t = some x) : (sizeOf t).run P w = .ok x.size w := by
  obtain ⟨d, i, hd, hi, rfl⟩ := ti_spec h
  simp [sizeOf, typeInfo, hi, TI.of_size]
theorem run_isAgg (h : ti P t = some x) : (isAgg t).run P w = .ok x.agg w := by
  obtain ⟨d, i, hd, hi, rfl⟩ := ti_spec h
  rw [TI.of_agg]
  unfold isAgg
  simp only [Sem.run_bind, run_underlying hd, Result.andThen_ok]
  cases d <;> rfl
theorem run_zeroValue (h : ti P t = some x) {z : Value} (hz : x.zero = some z) : (zeroValue t).run P w = .ok z w := by
  obtain ⟨d, i, hd, hi, rfl⟩ := ti_spec h
  rw [TI.of_zero] at hz
  simp [zeroValue, typeInfo, hi, hz]

theorem run_loadVar_at (h : ti P t = some x) {b o : Nat} {ys : List Value} (hl : ys.length = x.size) (h1 : x.agg = false → x.size = 1) (hc : ∀ (j : Nat) u, ys[j]? = some u → w.cell? ⟨b, o + j, none⟩ = some u) :
    (loadVar t ⟨b, o, none⟩).run P w = .ok (if x.agg then .agg ys.toArray else ys.headD undef) w := by
  have ha : ∀ (j : Nat) u, ys[j]? = some u → w.cell? ((⟨b, o, none⟩ : Addr).add j) = some u := fun j u hu => by
    have e : (⟨b, o, none⟩ : Addr).add j = ⟨b, o + j, none⟩ := by unfold Addr.add; split <;> simp_all
    rw [e]; exact hc j u hu
  unfold loadVar
  simp only [Sem.run_bind, run_isAgg h, Result.andThen_ok]
  cases hg : x.agg with
  | true =>
    simp only [if_true, Sem.run_bind, run_sizeOf h, Result.andThen_ok]
    rw [← hl, run_loadCells_list w _ ys ha]
    rfl
  | false =>
    simp only [Bool.false_eq_true, if_false]
    obtain ⟨y, rfl⟩ : ∃ y, ys = [y] := by
      have := h1 hg
      rw [this] at hl
      match ys, hl with
      | [y], _ => exact ⟨y, rfl⟩
    have := ha 0 y rfl
    simp [Addr.add] at this
    simp [load, Sem.run, this]

theorem run_storeVar_at (h : ti P t = some x) {b o : Nat} {e : TypeId} {cells : Array Value} {v : Value} (hb : w.heap[b]? = some (.cells cells e (0, 0))) (hv : v.cells.size = x.size) (h1 : ∀ u ∈ v.cells.toList, u.oneCell' = true) (hfit : o + x.size ≤ cells.size) :
    (storeVar t ⟨b, o, none⟩ v).run P w = .ok () (w.setRow b (cells.toList.take o ++ v.cells.toList ++ cells.toList.drop (o + v.cells.toList.length)).toArray) := by
  unfold storeVar
  simp only [Sem.run_bind, run_sizeOf h, Result.andThen_ok]
  rw [if_neg (by simp [hv])]
  have := run_storeCells_at P b o e v.cells.toList 0 cells w hb (by simp [hv]; omega) h1
  simpa using this
end runs

section cells
variable {Z : Nat → Prop} {G : List (Option OG)} {w : World}

/-- What stands in a row's cells. -/
theorem RC_vals {b : Nat} : ∀ (l : List HV) (k : Nat) (fp : List Nat), RC Z G w l b k fp → ∃ ys, RL Z G w l ys fp ∧ (∀ (j : Nat) u, ys[j]? = some u → w.cell? ⟨b, k + j, none⟩ = some u) ∧ ∀ u ∈ ys, u.oneCell' = true
  | [], k, fp, h => ⟨[], by simpa [RL, RC] using h, by simp, by simp⟩
  | h :: t, k, fp, hr => by
    simp only [RC] at hr
    obtain ⟨y, f1, f2, rfl, hy, h1, h2, h3⟩ := hr
    obtain ⟨ys, h4, h5, h6⟩ := RC_vals t (k + 1) f2 h3
    refine ⟨y :: ys, by simp only [RL]; exact ⟨y, ys, f1, f2, rfl, rfl, h2, h4⟩, fun j u hj => ?_, fun u hu => ?_⟩
    · cases j with
      | zero => simp at hj; subst hj; exact hy
      | succ j => have := h5 j u (by simpa using hj); rw [show k + (j + 1) = k + 1 + j by omega]; exact this
    · rcases List.mem_cons.1 hu with rfl | hu
      · exact h1
      · exact h6 u hu

theorem RR_row {b sz : Nat} : ∀ (l : List (List HV)) (k : Nat) (fp : List Nat), RR Z G w l b k fp → (∀ r ∈ l, r.length = sz) → ∀ (i : Nat) row, l[i]? = some row → ∃ f, RC Z G w row b (k + i * sz) f ∧ f.Sublist fp
  | [], k, fp, _, _, i, row, hi => by simp at hi
  | r :: t, k, fp, h, hu, i, row, hi => by
    simp only [RR] at h
    obtain ⟨f1, f2, rfl, h1, h2⟩ := h
    cases i with
    | zero => simp at hi; subst hi; exact ⟨f1, by simpa using h1, List.sublist_append_left _ _⟩
    | succ i =>
      obtain ⟨f, h3, h4⟩ := RR_row t (k + r.length) f2 h2 (fun x hx => hu x (by simp [hx])) i row (by simpa using hi)
      refine ⟨f, ?_, h4.trans (List.sublist_append_right _ _)⟩
      rw [hu r (by simp)] at h3
      rw [show k + (i + 1) * sz = k + sz + i * sz by rw [Nat.add_mul]; omega]
      exact h3

/-- A part of a row: what stands there. -/
theorem row_seg {b k : Nat} {row : List HV} {fp : List Nat} (h : RC Z G w row b k fp) (o m : Nat) (hm : o + m ≤ row.length) (ht : tvs ((row.drop o).take m) = true) :
    ∃ ys, ys.length = m ∧ RL Z G w ((row.drop o).take m) ys [] ∧ (∀ (j : Nat) u, ys[j]? = some u → w.cell? ⟨b, k + o + j, none⟩ = some u) ∧ ∀ u ∈ ys, u.oneCell' = true := by
  obtain ⟨ys, h1, h2, h3⟩ := RC_vals row k fp h
  have hl := RL_length _ _ _ h1
  refine ⟨(ys.drop o).take m, by simp; omega, RL_seg h1 o m ht, fun j u hj => ?_, fun u hu => h3 u (List.mem_of_mem_drop (List.mem_of_mem_take hu))⟩
  rw [List.getElem?_take] at hj
  split at hj
  · rw [List.getElem?_drop] at hj
    have := h2 (o + j) u hj
    rw [show k + o + j = k + (o + j) by omega]; exact this
  · cases hj

/-- One cell of its own. -/
def c1 : HV → Bool
  | .v x => x.oneCell'
  | .sl _ => true
  | .hd .. => true
  | .pt .. => true
  | .fp .. => true
  | .fn .. => true
  | .ic .. => true
  | .mp _ => true
  | .yl _ => true
  | _ => false

theorem RV_c1 {h : HV} {y : Value} {f : List Nat} (hc : c1 h = true) (hr : RV Z G w h y f) : y.oneCell' = true := by
  cases h <;> simp only [c1, Bool.false_eq_true] at hc <;> simp only [RV] at hr
  · rw [hr.2]; exact hc
  · obtain ⟨_, a, c, rfl, _⟩ := hr; rfl
  · exact hr.2.1
  · exact hr.2.1
  · obtain ⟨_, b, o, rfl, _⟩ := hr; rfl
  · obtain ⟨ys, rfl, _⟩ := hr; rfl
  · obtain ⟨_, z, rfl, _⟩ := hr; rfl
  · exact hr.2.1
  · obtain ⟨_, _, l, rfl, _⟩ := hr; rfl

theorem cells_one {y : Value} (h : y.oneCell' = true) : y.cells = #[y] := by cases y <;> simp_all [Value.cells, Value.oneCell']

theorem RL_c1 : ∀ {l : List HV} {ys : List Value} {f : List Nat}, l.all c1 = true → RL Z G w l ys f → ∀ u ∈ ys, u.oneCell' = true
  | [], ys, f, _, h => by simp only [RL] at h; rw [h.1]; simp
  | h :: t, ys, f, hc, hr => by
    simp only [List.all_cons, Bool.and_eq_true] at hc
    simp only [RL] at hr
    obtain ⟨y, ys', f1, f2, rfl, rfl, h1, h2⟩ := hr
    intro u hu
    rcases List.mem_cons.1 hu with rfl | hu
    · exact RV_c1 hc.1 h1
    · exact RL_c1 hc.2 h2 u hu

/-- A value's cells. -/
def cellsH : HV → List HV
  | .ag cs => cs
  | x => [x]

theorem cellsH_spec {x : HV} {y : Value} (hc : (cellsH x).all c1 = true) (hr : RV Z G w x y []) : RL Z G w (cellsH x) y.cells.toList [] ∧ ∀ u ∈ y.cells.toList, u.oneCell' = true := by
  by_cases hx : ∃ cs, x = .ag cs
  · obtain ⟨cs, rfl⟩ := hx
    simp only [cellsH] at hc ⊢
    simp only [RV] at hr
    obtain ⟨ys, rfl, h⟩ := hr
    exact ⟨h, RL_c1 hc h⟩
  · have e : cellsH x = [x] := by cases x <;> first | rfl | exact absurd ⟨_, rfl⟩ hx
    rw [e] at hc ⊢
    simp only [List.all_cons, List.all_nil, Bool.and_true] at hc
    have h1 := RV_c1 hc hr
    rw [cells_one h1]
    refine ⟨by simp only [RL]; exact ⟨y, [], [], [], rfl, rfl, hr, rfl, rfl⟩, fun u hu => ?_⟩
    simp at hu; subst hu; exact h1
end cells
end Go.Proofs.YtcpefnjofekibaaDoor
