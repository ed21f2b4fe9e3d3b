/- Part K of the engine: values built, rows laid. -/
import Derived.Test.YtcpefnjofekibaaDoorHiJ
import Derived.Great.BuildSlice
import Derived.Great.FillDense
import Derived.Laws.MakeOwn
namespace Go.Proofs.YtcpefnjofekibaaDoor
open Go.RowKit
set_option linter.unusedVariables false
set_option linter.unusedSimpArgs false

/-- The cells of a type's zero. -/
def zcells (x : TI) : Option (List HV) :=
  match x.zero with
  | some z => if (z.cells.toList.all fun y => y.oneCell') = true ∧ z.cells.size = x.size then some (z.cells.toList.map .v) else none
  | none => none

def newPt (H : Heap) (e : TypeId) (sz : Nat) (row : List HV) (K : KT) : Prop := K (.pt H.length 1 0 0) (H ++ [some ⟨e, sz, [row]⟩])
def newHd (H : Heap) (e : TypeId) (sz : Nat) (rows : List (List HV)) (K : KT) : Prop := K (.hd H.length 0 rows.length) (H ++ [some ⟨e, sz, rows⟩])

def halloc (P : Program) (H : Heap) (t : TypeId) (K : KT) : Prop :=
  match ti P t with
  | some x => (match zcells x with | some cs => newPt H t x.size cs K | none => False)
  | none => False

def hbox (P : Program) (H : Heap) (t : TypeId) (v : HV) (K : KT) : Prop :=
  (cellsH v).all c1 = true ∧ newPt H t (cellsH v).length (cellsH v) K

/-- Parts are put into cells. -/
def hfill (place : Nat → Option (Nat × Nat)) : List HV → List (Nat × HV) → Option (List HV)
  | cs, [] => some cs
  | cs, (i, x) :: rest =>
    match place i with
    | some (off, n) => if (cellsH x).length = n ∧ off + n ≤ cs.length ∧ (cellsH x).all c1 = true then hfill place (cs.take off ++ cellsH x ++ cs.drop (off + n)) rest else none
    | none => none

/-- Where the parts of a struct or an array lie. -/
def places (P : Program) (x : TI) (i : Nat) : Option (Nat × Nat) :=
  if x.kind = 1 then (match x.flds[i]? with
    | some (off, ft) => (match ti P ft with | some y => some (off, y.size) | none => none)
    | none => none)
  else (match ti P x.elem with | some y => some (i * y.size, y.size) | none => none)

def hbuild (P : Program) (T : Nat → HV) (t : TypeId) (parts : List (Nat × Operand)) (K : HV → Prop) : Prop :=
  match ti P t with
  | some x => x.agg = true ∧ (x.kind = 1 → ∀ f ∈ x.flds, (ti P f.2).isSome = true) ∧ (x.kind = 2 → (ti P x.elem).isSome = true) ∧
    (match zcells x with
    | some cs => (match hfill (places P x) cs (parts.map fun p => (p.1, hev T p.2)) with
      | some cs' => K (.ag cs')
      | none => False)
    | none => False)
  | none => False

/-- The elements of a slice, one behind the other. -/
def seqParts : Nat → List (Nat × Operand) → Bool
  | _, [] => true
  | k, (i, _) :: rest => i == k && seqParts (k + 1) rest

def hbuildSlice (P : Program) (T : Nat → HV) (H : Heap) (t : TypeId) (len : Nat) (parts : List (Nat × Operand)) (K : KT) : Prop :=
  match elemTI P t 3 with
  | some (_, e, te) =>
    len = parts.length ∧ seqParts 0 parts = true ∧ te.size ≠ 0 ∧ len * te.size ≤ 16777216 ∧ (zcells te).isSome = true ∧
    (∀ p ∈ parts, (cellsH (hev T p.2)).length = te.size ∧ (cellsH (hev T p.2)).all c1 = true) ∧
    newHd H e te.size (parts.map fun p => cellsH (hev T p.2)) K
  | none => False

def hmakeSlice (P : Program) (H : Heap) (t : TypeId) (l c : HV) (K : KT) : Prop :=
  match elemTI P t 3, l, c with
  | some (_, e, te), .v (.int _ n), .v (.int _ m) =>
    0 ≤ n ∧ n ≤ m ∧ (te.bytes : Int) * m ≤ 281474976710656 ∧ m ≤ 9223372036854775807 ∧
    (match zcells te with
    | some cs => newHd H e te.size (List.replicate n.toNat cs) K
    | none => False)
  | _, _, _ => False

section
variable {P : Program} {N : Nat} {T : Nat → HV} {H : Heap} {K : KT} {Z : Nat → Prop} {G : List (Option OG)} {FP : Nat → List Nat} {w : World}

/-- A row is laid. -/
theorem lay (hi : HInv Z G FP H w) {w1 : World} (hw1 : w1 = w ∨ w1 = w.drew) {cells : Array Value} {e : TypeId} {sz cap : Nat} {rows : List (List HV)}
    (hcap : cells.size = cap * sz) (hlen : rows.length ≤ cap) (hmax : cap ≤ maxLen) (hrl : ∀ r ∈ rows, r.length = sz)
    (hv : RL Z G w rows.flatten (cells.toList.take rows.flatten.length) []) (h1 : ∀ y ∈ cells.toList.take rows.flatten.length, y.oneCell' = true) :
    ∃ FP', HInv Z (G ++ [some ⟨some w.heap.size, e, sz, rows.length, cap⟩]) FP' (H ++ [some ⟨e, sz, rows⟩]) (w1.alloc (.cells cells e)) ∧
      Evo Z FP w Z FP' (w1.alloc (.cells cells e)) ∧
      RV Z (G ++ [some ⟨some w.heap.size, e, sz, rows.length, cap⟩]) (w1.alloc (.cells cells e)) (.hd H.length 0 rows.length) (.slice (some ⟨w.heap.size, 0, none⟩) rows.length cap) [] ∧
      (rows.length = 1 → RV Z (G ++ [some ⟨some w.heap.size, e, sz, rows.length, cap⟩]) (w1.alloc (.cells cells e)) (.pt H.length 1 0 0) (.pointer (some ⟨w.heap.size, 0, none⟩)) []) := by
  have hheap : w1.heap = w.heap := by rcases hw1 with rfl | rfl <;> rfl
  have hsz : w1.heap.size = w.heap.size := by rw [hheap]
  have hnew : (w1.alloc (.cells cells e)).heap[w.heap.size]? = some (.cells cells e (0, 0)) := by rw [← hsz]; exact heap_alloc_new w1 _
  have hold : ∀ b, b < w.heap.size → (w1.alloc (.cells cells e)).heap[b]? = w.heap[b]? := fun b hb => by rw [heap_alloc_old w1 _ (by omega), hheap]
  have hall : (w1.alloc (.cells cells e)).heap.size = w.heap.size + 1 := by simp [hsz]
  have hlt : ∀ id b, b ∈ FP id → b < w.heap.size := hi.flt
  have hob : OB Z (G ++ [some ⟨some w.heap.size, e, sz, rows.length, cap⟩]) (w1.alloc (.cells cells e)) ⟨e, sz, rows⟩ ⟨some w.heap.size, e, sz, rows.length, cap⟩ [w.heap.size] := by
    refine ⟨rfl, rfl, rfl, hrl, .inr (.inl ⟨w.heap.size, cells, [], rfl, rfl, hnew, hcap, hlen, hmax, ?_⟩)⟩
    refine (RR_iff hnew rows 0 [] (Nat.zero_le _)).2 ⟨?_, ?_, by simpa using h1⟩
    · rw [flat_len rows hrl, hcap, Nat.zero_add]; exact Nat.mul_le_mul_right _ hlen
    · simp only [List.drop_zero]
      exact RL.keep (fun b hb => hold b (hi.zlt b hb)) (fun _ h => h) (GLe.more _) _ _ _ (by simp) hv
  refine ⟨_, hi.new (by omega) hold hob (by simp) (fun b hb => ?_), evo_new (hi.nofp _ (by simp)) ?_ ?_ ?_ (by omega) hold (fun b hb => by simp at hb; omega), ?_, ?_⟩
  · simp at hb; subst hb
    exact ⟨fun hz => by have := hi.zlt _ hz; omega, by omega, fun j hj => by have := hlt j _ hj; omega⟩
  · rcases hw1 with rfl | rfl <;> rfl
  · rcases hw1 with rfl | rfl <;> rfl
  · rcases hw1 with rfl | rfl <;> rfl
  · simp only [RV]
    rw [← hi.len]
    refine ⟨trivial, rfl, by simp, fun g hg => ?_⟩
    simp at hg; subst hg
    refine ⟨by simp, fun _ => ?_⟩
    unfold View
    exact ⟨⟨w.heap.size, 0, none⟩, by simp, fun _ => by simp⟩
  · intro h1'
    simp only [RV]
    rw [← hi.len]
    refine ⟨trivial, rfl, by simp, fun g hg => ?_⟩
    simp at hg; subst hg
    exact ⟨by simp [h1'], fun _ => ⟨w.heap.size, rfl, by simp⟩⟩

/-- An operation that lays a row. -/
theorem HR_lay {o : Oper} (h : ∀ B Z G FP ds a w, St N B Z G FP ds T H a w → ∃ w1 cells e sz cap rows x v, (w1 = w ∨ w1 = w.drew) ∧ (execOp a.eval o).run P w = .ok (.value v) (w1.alloc (.cells cells e)) ∧
      cells.size = cap * sz ∧ rows.length ≤ cap ∧ cap ≤ maxLen ∧ (∀ r ∈ rows, r.length = sz) ∧ RL Z G w rows.flatten (cells.toList.take rows.flatten.length) [] ∧ (∀ y ∈ cells.toList.take rows.flatten.length, y.oneCell' = true) ∧
      ((x = .hd H.length 0 rows.length ∧ v = .slice (some ⟨w.heap.size, 0, none⟩) rows.length cap) ∨ (rows.length = 1 ∧ x = .pt H.length 1 0 0 ∧ v = .pointer (some ⟨w.heap.size, 0, none⟩))) ∧ K x (H ++ [some ⟨e, sz, rows⟩])) :
    HR P N o T H K := by
  intro B Z G FP ds a w hs
  obtain ⟨w1, cells, e, sz, cap, rows, x, v, hw1, hrun, h1, h2, h3, h4, h5, h6, h7, hK⟩ := h B Z G FP ds a w hs
  obtain ⟨FP', i1, i2, i3, i4⟩ := lay hs.inv hw1 h1 h2 h3 h4 h5 h6
  refine ⟨.value v, v, _, x, _, Z, _, FP', hrun, .inl rfl, hK, ?_, i1, GLe.more _, i2⟩
  rcases h7 with ⟨rfl, rfl⟩ | ⟨hl, rfl, rfl⟩
  · exact i3
  · exact i4 hl

theorem zcells_spec {x : TI} {cs : List HV} (h : zcells x = some cs) : ∃ z, x.zero = some z ∧ cs = z.cells.toList.map .v ∧ (∀ y ∈ z.cells.toList, y.oneCell' = true) ∧ z.cells.size = x.size := by
  unfold zcells at h
  split at h
  · rename_i z hz
    split at h
    · rename_i hc
      cases h
      exact ⟨z, hz, rfl, fun y hy => List.all_eq_true.1 hc.1 y hy, hc.2⟩
    · cases h
  · cases h

theorem HR_alloc {o : Oper} {t : TypeId} (ho : o.op = .alloc t) (h : halloc P H t K) : HR P N o T H K :=
  HR_lay fun B Z G FP ds a w hs => by
    unfold halloc at h
    split at h
    · rename_i x hx
      split at h
      · rename_i cs hcs
        obtain ⟨z, hz, rfl, h1, hsz⟩ := zcells_spec hcs
        refine ⟨w, z.cells, t, x.size, 1, [z.cells.toList.map .v], _, _, .inl rfl, ?_, by rw [hsz, Nat.one_mul], by simp, by simp [maxLen], by simp [hsz], ?_, ?_, .inr ⟨rfl, rfl, rfl⟩, h⟩
        · simp only [execOp, ho, Instr.alloc, Sem.run_bind, run_zeroValue hx hz, Result.andThen_ok, newVar, newRow]
          simp
        · simp only [List.flatten_cons, List.flatten_nil, List.append_nil, List.length_map]
          rw [List.take_of_length_le (Nat.le_refl _)]
          exact RL_vs Z G w _
        · intro y hy
          exact h1 y (List.mem_of_mem_take hy)
      · exact h.elim
    · exact h.elim

theorem HR_box {o : Oper} {t : TypeId} {x : Operand} (ho : o.op = .box t x) (hok : operOk N o = true) (h : hbox P H t (hev T x) K) : HR P N o T H K :=
  HR_lay fun B Z G FP ds a w hs => by
    obtain ⟨hc, hK⟩ := h
    have hx := hs.hev x (opds_mem hok (by simp [ho, Op.operands]))
    obtain ⟨h1, h2⟩ := cellsH_spec hc hx
    have hl := RL_length _ _ _ h1
    refine ⟨w, (a.eval x).cells, t, (cellsH (hev T x)).length, 1, [cellsH (hev T x)], _, _, .inl rfl, ?_, by rw [← hl]; simp, by simp, by simp [maxLen], by simp, ?_, ?_, .inr ⟨rfl, rfl, rfl⟩, hK⟩
    · simp only [execOp, ho, Instr.box, Sem.run_bind, Result.andThen_ok, newVar, newRow]
      simp
    · simp only [List.flatten_cons, List.flatten_nil, List.append_nil]
      rw [List.take_of_length_le (by omega)]
      exact h1
    · intro y hy
      exact h2 y (List.mem_of_mem_take hy)

theorem fold_list (v : Value) (off : Nat) (cells : Array Value) (h : off + v.cells.size ≤ cells.size) :
    (v.cells.zipIdx.foldl (fun cs (c, j) => cs.setIfInBounds (off + j) c) cells).toList = cells.toList.take off ++ v.cells.toList ++ cells.toList.drop (off + v.cells.size) := by
  obtain ⟨h1, h2⟩ := Great.foldl_set off v.cells.toList 0 cells
  rw [← Array.foldl_toList, Array.toList_zipIdx]
  apply List.ext_getElem?
  intro k
  rw [Array.getElem?_toList, h2 k]
  simp only [Nat.add_zero, Array.length_toList]
  rw [List.append_assoc, List.getElem?_append, List.getElem?_append]
  simp only [List.length_take, Array.length_toList, List.getElem?_take, List.getElem?_drop, Array.getElem?_toList]
  have hm : min off cells.size = off := by omega
  rw [hm]
  by_cases h3 : k < off
  · rw [if_neg (by omega), if_pos h3, if_pos h3]
  · rw [if_neg h3]
    by_cases h4 : k - off < v.cells.size
    · rw [if_pos (by omega), if_pos h4]
    · rw [if_neg (by omega), if_neg h4]
      congr 1; omega

def PR (Z : Nat → Prop) (G : List (Option OG)) (w : World) : List (Nat × HV) → List (Nat × Value) → Prop
  | [], [] => True
  | x :: r, y :: s => x.1 = y.1 ∧ RV Z G w x.2 y.2 [] ∧ PR Z G w r s
  | _, _ => False

theorem fill_run {pl : Nat → Option (Nat × Nat)} : ∀ (hp : List (Nat × HV)) (vp : List (Nat × Value)) (cs : List HV) (cells : Array Value) (cs' : List HV), RL Z G w cs cells.toList [] →
    PR Z G w hp vp → hfill pl cs hp = some cs' → ∃ r, Instr.fill pl cells vp = some r ∧ RL Z G w cs' r.toList []
  | [], [], cs, cells, cs', hcs, _, h => by simp only [hfill, Option.some.injEq] at h; subst h; exact ⟨cells, rfl, hcs⟩
  | (i, x) :: hp, (j, y) :: vp, cs, cells, cs', hcs, hf, h => by
    · obtain ⟨hij, hxy, hrest⟩ := hf
      simp only at hij hxy
      subst hij
      simp only [hfill] at h
      split at h
      · rename_i off n hpl
        split at h
        · rename_i hc
          obtain ⟨h1, h2, h3⟩ := hc
          obtain ⟨k1, k2⟩ := cellsH_spec h3 hxy
          have hl1 := RL_length _ _ _ k1
          have hl2 := RL_length _ _ _ hcs
          have hys : y.cells.size = n := by rw [← h1, ← hl1]; simp
          rw [Array.length_toList] at hl2
          have hfit : off + y.cells.size ≤ cells.size := by omega
          obtain ⟨f1, f2, hf12, hA, hB⟩ := RL_split _ _ _ off hcs
          obtain ⟨rfl, rfl⟩ := List.append_eq_nil_iff.1 hf12.symm
          obtain ⟨f1, f2, hf12, _, hC⟩ := RL_split _ _ _ (off + n) hcs
          obtain ⟨rfl, rfl⟩ := List.append_eq_nil_iff.1 hf12.symm
          have hnew : RL Z G w (cs.take off ++ cellsH x ++ cs.drop (off + n)) (y.cells.zipIdx.foldl (fun cs (c, j) => cs.setIfInBounds (off + j) c) cells).toList [] := by
            rw [fold_list y off cells hfit, hys]
            exact (RL_append _ _ _ _).2 ⟨_, _, [], [], rfl, rfl, (RL_append _ _ _ _).2 ⟨_, _, [], [], rfl, rfl, hA, k1⟩, hC⟩
          obtain ⟨r, hr, hrl⟩ := fill_run hp vp _ _ cs' hnew hrest h
          refine ⟨r, ?_, hrl⟩
          unfold Instr.fill
          simp only [hpl]
          rw [if_neg (by simp [hys]; omega)]
          exact hr
        · cases h
      · cases h
  | [], _ :: _, _, _, _, _, h, _ => h.elim
  | _ :: _, [], _, _, _, _, h, _ => h.elim

theorem parts_hev {N B : Nat} {ds : List Nat} {a : Act} (hs : St N B Z G FP ds T H a w) : ∀ (ps : List (Nat × Operand)), (∀ p ∈ ps, opdOk N p.2 = true) →
    PR Z G w (ps.map fun p => (p.1, hev T p.2)) (ps.map fun p => (p.1, a.eval p.2))
  | [], _ => trivial
  | p :: ps, h => ⟨rfl, hs.hev p.2 (h p (by simp)), parts_hev hs ps (fun q hq => h q (by simp [hq]))⟩

theorem run_places {fs : Array Field} (h : ∀ f ∈ fs.toList, (ti P f.type).isSome = true) : (fs.mapM (m := Sem) fun (f : Field) => do pure (f.offset, ← sizeOf f.type)).run P w = .ok (fs.map fun (f : Field) => (f.offset, ((ti P f.type).map (·.size)).getD 0)) w := by
  rw [Array.mapM_eq_mapM_toList]
  have : ∀ (l : List Field), (∀ f ∈ l, (ti P f.type).isSome = true) → (l.mapM (m := Sem) fun (f : Field) => do pure (f.offset, ← sizeOf f.type)).run P w = .ok (l.map fun (f : Field) => (f.offset, ((ti P f.type).map (·.size)).getD 0)) w := by
    intro l
    induction l with
    | nil => intro _; simp
    | cons f l ih =>
      intro hl
      obtain ⟨x, hx⟩ := Option.isSome_iff_exists.1 (hl f (by simp))
      rw [List.mapM_cons]
      simp only [Sem.run_bind, run_sizeOf hx, Result.andThen_ok, Sem.run_pure, ih (fun g hg => hl g (by simp [hg])), List.map_cons, hx, Option.map_some, Option.getD_some]
  simp only [map_eq_pure_bind, Sem.run_bind, this fs.toList h, Result.andThen_ok, Sem.run_pure]
  congr 1
  apply Array.ext'
  simp

theorem HR_build {o : Oper} {t : TypeId} {parts : Array (Nat × Operand)} (ho : o.op = .build t parts) (hok : operOk N o = true) (h : hbuild P T t parts.toList (fun v => K v H)) : HQ P N o T H K :=
  fun B Z G FP ds a w hs => by
    have hpok : ∀ p ∈ parts.toList, opdOk N p.2 = true := fun p hp => opds_mem hok (by simp only [ho, Op.operands]; simp; exact ⟨p.1, by simpa using hp⟩)
    unfold hbuild at h
    split at h
    · rename_i x hx
      obtain ⟨hagg, hk1, hk2, h⟩ := h
      split at h
      · rename_i cs hcs
        split at h
        · rename_i cs' hcs'
          obtain ⟨z, hz, rfl, h1, hsz⟩ := zcells_spec hcs
          obtain ⟨d, inf, hd, hinf, rfl⟩ := ti_spec hx
          have hpr := parts_hev hs parts.toList hpok
          obtain ⟨r, hr, hrl⟩ := fill_run _ _ _ z.cells _ (RL_vs Z G w z.cells.toList) hpr hcs'
          have hpa : (parts.map fun (p : Nat × Operand) => (p.1, a.eval p.2)).toList = parts.toList.map fun p => (p.1, a.eval p.2) := by simp
          refine ⟨.agg r, _, ?_, h, by simp only [RV]; exact ⟨r, rfl, hrl⟩⟩
          rw [TI.of_agg] at hagg
          cases d <;> simp at hagg
          · rename_i n e
            obtain ⟨y, hy⟩ := Option.isSome_iff_exists.1 (hk2 rfl)
            have hy' : ti P e = some y := hy
            have hpl : (fun i => some (i * y.size, y.size)) = places P (TI.of (.array n e) inf) := by
              funext i
              simp [places, TI.of, hy']
            simp only [execOp, ho, Instr.build, Sem.run_bind, run_zeroValue hx hz, Result.andThen_ok, run_underlying hd, run_sizeOf hy', hpl, hpa, hr, Sem.run_pure]
          · rename_i fs
            have hk1' := hk1 rfl
            have hfs : ∀ f ∈ fs.toList, (ti P f.type).isSome = true := fun f hf => hk1' (f.offset, f.type) (by simp [TI.of]; exact ⟨f, by simpa using hf, rfl, rfl⟩)
            have hpl : (fun i => (fs.map fun (f : Field) => (f.offset, ((ti P f.type).map (·.size)).getD 0))[i]?) = places P (TI.of (.struct fs) inf) := by
              funext i
              simp only [places, TI.of, if_true, List.getElem?_map, Array.getElem?_toList, Array.getElem?_map]
              cases hf : fs[i]? with
              | none => simp
              | some f =>
                obtain ⟨y, hy⟩ := Option.isSome_iff_exists.1 (hfs f (Array.mem_toList_iff.2 (Array.mem_of_getElem? hf)))
                simp [hy]
            simp only [execOp, ho, Instr.build, Sem.run_bind, run_zeroValue hx hz, Result.andThen_ok, run_underlying hd, run_places hfs, hpl, hpa, hr, Sem.run_pure]
        · exact h.elim
      · exact h.elim
    · exact h.elim

theorem seq_parts (f : Operand → Value) : ∀ (ps : List (Nat × Operand)) (k : Nat), seqParts k ps = true → ps.map (fun p => (p.1, f p.2)) = ((ps.map fun p => f p.2).zipIdx k).map fun x => (x.2, x.1)
  | [], k, _ => rfl
  | (i, x) :: ps, k, h => by
    simp only [seqParts, Bool.and_eq_true, beq_iff_eq] at h
    obtain ⟨rfl, h2⟩ := h
    simp only [List.map_cons, List.zipIdx_cons]
    rw [seq_parts f ps (i + 1) h2]

theorem RL_flatMap {N B : Nat} {ds : List Nat} {a : Act} (hs : St N B Z G FP ds T H a w) : ∀ (ps : List (Nat × Operand)), (∀ p ∈ ps, opdOk N p.2 = true) → (∀ p ∈ ps, (cellsH (hev T p.2)).all c1 = true) →
    RL Z G w (ps.map fun p => cellsH (hev T p.2)).flatten ((ps.map fun p => a.eval p.2).flatMap fun v => v.cells.toList) [] ∧ ∀ y ∈ (ps.map fun p => a.eval p.2).flatMap (fun v => v.cells.toList), y.oneCell' = true
  | [], _, _ => by simp [RL]
  | p :: ps, h, hc => by
    obtain ⟨k1, k2⟩ := RL_flatMap hs ps (fun q hq => h q (by simp [hq])) (fun q hq => hc q (by simp [hq]))
    obtain ⟨k3, k4⟩ := cellsH_spec (hc p (by simp)) (hs.hev p.2 (h p (by simp)))
    simp only [List.map_cons, List.flatten_cons, List.flatMap_cons]
    refine ⟨(RL_append _ _ _ _).2 ⟨_, _, [], [], rfl, rfl, k3, k1⟩, fun y hy => ?_⟩
    rcases List.mem_append.1 hy with hy | hy
    · exact k4 y hy
    · exact k2 y hy

theorem HR_buildSlice {o : Oper} {t : TypeId} {len : Nat} {parts : Array (Nat × Operand)} (ho : o.op = .buildSlice t len parts) (hok : operOk N o = true) (h : hbuildSlice P T H t len parts.toList K) : HR P N o T H K :=
  HR_lay fun B Z G FP ds a w hs => by
    have hpok : ∀ p ∈ parts.toList, opdOk N p.2 = true := fun p hp => opds_mem hok (by simp only [ho, Op.operands]; simp; exact ⟨p.1, by simpa using hp⟩)
    unfold hbuildSlice at h
    split at h
    · rename_i x e te he
      obtain ⟨hlen, hseq, hsz, hsmall, hzc, hp, hK⟩ := h
      unfold newHd at hK
      obtain ⟨hs1, hs2⟩ := elem_slice he
      obtain ⟨cs, hcs⟩ := Option.isSome_iff_exists.1 hzc
      obtain ⟨z, hz, rfl, h1, hzs⟩ := zcells_spec hcs
      obtain ⟨hA, hB⟩ := RL_flatMap hs parts.toList hpok (fun p hq => (hp p hq).2)
      have hrl : ∀ r ∈ parts.toList.map (fun p => cellsH (hev T p.2)), r.length = te.size := by
        intro r hr
        obtain ⟨p, hp1, rfl⟩ := List.mem_map.1 hr
        exact (hp p hp1).1
      have hpa : (parts.map fun (p : Nat × Operand) => (p.1, a.eval p.2)).toList = parts.toList.map fun p => (p.1, a.eval p.2) := by simp
      have hvs : ∀ v ∈ parts.toList.map (fun p => a.eval p.2), v.cells.size = te.size := by
        intro v hv
        obtain ⟨p, hp1, rfl⟩ := List.mem_map.1 hv
        have := RL_length _ _ _ (cellsH_spec (hp p hp1).2 (hs.hev p.2 (hpok p hp1))).1
        rw [(hp p hp1).1] at this
        simpa using this
      have hAl := RL_length _ _ _ hA
      have hfl := flat_len _ hrl
      rw [List.length_map] at hfl
      have hlen' : parts.size = len := by rw [hlen]; simp
      refine ⟨w, ((parts.toList.map fun p => a.eval p.2).flatMap fun v => v.cells.toList).toArray, e, te.size, len, parts.toList.map fun p => cellsH (hev T p.2), _, _, .inl rfl, ?_, ?_, by simp [hlen'], ?_, hrl, ?_, ?_, .inl ⟨rfl, rfl⟩, hK⟩
      · have hfill : Instr.fill (fun i => some (i * te.size, te.size)) ((Array.range (len * te.size)).map (z.cells[· % z.cells.size]!)) (parts.toList.map fun p => (p.1, a.eval p.2)) = some ((parts.toList.map fun p => a.eval p.2).flatMap fun v => v.cells.toList).toArray := by
          rw [seq_parts a.eval _ 0 hseq]
          exact Great.fill_whole (by omega) _ _ hvs (by simp [hlen'])
        have hrun : (Instr.buildSlice t len (parts.map fun (i, x) => (i, a.eval x))).run P w = .ok (.slice (some ⟨w.heap.size, 0, none⟩) len len) (w.alloc (.cells ((parts.toList.map fun p => a.eval p.2).flatMap fun v => v.cells.toList).toArray e)) := by
          have hns : ¬ len * te.size > 2 ^ 24 := by omega
          by_cases h0 : len * te.size = 0
          · have hl0 : len = 0 := by rcases Nat.mul_eq_zero.1 h0 with h | h <;> omega
            subst hl0
            have : parts.toList = [] := List.eq_nil_of_length_eq_zero hlen.symm
            have hp0 : parts = #[] := Array.toList_eq_nil_iff.1 this
            subst hp0
            simp [Instr.buildSlice, run_underlying hs1, run_sizeOf hs2, Instr.fill, newRow, Array.range_zero']
          · unfold Instr.buildSlice
            simp only [Sem.run_bind, run_underlying hs1, Result.andThen_ok, run_sizeOf hs2, if_neg hns, if_neg h0, run_zeroValue hs2 hz, Sem.run_pure, hpa, hfill]
            simp [newRow]
        simp only [execOp, ho, Sem.run_bind, hrun, Result.andThen_ok, Sem.run_pure, List.length_map, Array.length_toList, hlen']
      · simp only [List.size_toArray, hAl, hfl, hlen]
      · simp only [maxLen]
        have : len ≤ len * te.size := Nat.le_mul_of_pos_right _ (by omega)
        omega
      · rw [List.take_of_length_le (by rw [← hAl]; simp)]
        exact hA
      · intro y hy
        exact hB y (List.mem_of_mem_take hy)
    · exact h.elim

theorem RL_vmap : ∀ (l : List HV) (xs : List Value), l = xs.map .v → RL Z G w l xs [] := fun l xs h => h ▸ RL_vs Z G w xs

theorem made_cells (z : Array Value) (n : Nat) : (madeCells z (n * z.size)).toList = (List.replicate n z.toList).flatten := by
  apply List.ext_getElem?
  intro k
  unfold madeCells
  rw [Array.toList_map, List.getElem?_map]
  have hr : ∀ n, (List.replicate n z.toList).flatten.length = n * z.size := fun n => by simp
  by_cases hk : k < n * z.size
  · have hp : 0 < z.size := Nat.pos_of_ne_zero (fun e => by rw [e] at hk; simp at hk)
    have hm : k % z.size < z.size := Nat.mod_lt _ hp
    have e1 : (List.replicate n z.toList).flatten[k]? = z.toList[k % z.size]? := by
      clear hr
      induction n generalizing k with
      | zero => simp at hk
      | succ n ih =>
        rw [List.replicate_succ, List.flatten_cons]
        by_cases h1 : k < z.size
        · rw [List.getElem?_append_left (by simpa using h1), Nat.mod_eq_of_lt h1]
        · rw [List.getElem?_append_right (by simpa using Nat.le_of_not_lt h1)]
          have : k - z.toList.length < n * z.size := by rw [Nat.add_mul] at hk; simp; omega
          rw [ih _ this (Nat.mod_lt _ hp)]
          congr 1
          have h2 := Nat.sub_add_cancel (Nat.le_of_not_lt h1)
          simp only [Array.length_toList]
          conv => rhs; rw [← h2]
          rw [Nat.add_mod_right]
    rw [e1]
    simp [hk, hm]
  · have e2 : (List.replicate n z.toList).flatten[k]? = none := List.getElem?_eq_none (by rw [hr]; omega)
    rw [e2]
    simp
    omega

theorem HR_makeSlice {o : Oper} {t : TypeId} {l c : Operand} (ho : o.op = .makeSlice t l c) (hok : operOk N o = true) (h : hmakeSlice P H t (hev T l) (hev T c) K) : HR P N o T H K :=
  HR_lay fun B Z G FP ds a w hs => by
    have hl := hs.hev l (opds_mem hok (by simp [ho, Op.operands]))
    have hc := hs.hev c (opds_mem hok (by simp [ho, Op.operands]))
    unfold hmakeSlice at h
    split at h
    · rename_i x e te k1 n k2 m he el ec
      rw [el] at hl; rw [ec] at hc
      obtain ⟨h0, h1, hb, h63, h⟩ := h
      obtain ⟨hs1, hs2⟩ := elem_slice he
      split at h
      · rename_i cs hcs
        obtain ⟨z, hz, rfl, hz1, hzs⟩ := zcells_spec hcs
        obtain ⟨d, inf, hd, hinf, rfl⟩ := ti_spec hs2
        rw [TI.of_bytes] at hb
        rw [TI.of_zero] at hz
        rw [TI.of_size] at hzs
        have hrun := run_make (P := P) w t e inf z hs1 hinf hz k1 k2 n m h0 h1 hb h63
        have hcells : (madeCells z.cells (m.toNat * inf.size)).toList = (List.replicate m.toNat z.cells.toList).flatten := by rw [← hzs]; exact made_cells _ _
        have hfl : (List.replicate n.toNat (z.cells.toList.map HV.v)).flatten.length = n.toNat * inf.size := by simp [hzs]
        have htake : (madeCells z.cells (m.toNat * inf.size)).toList.take (n.toNat * inf.size) = (List.replicate n.toNat z.cells.toList).flatten := by
          rw [hcells]
          have : m.toNat = n.toNat + (m.toNat - n.toNat) := by omega
          rw [this, ← List.replicate_append_replicate, List.flatten_append]
          rw [List.take_left' (by simp [hzs])]
        refine ⟨w, madeCells z.cells (m.toNat * inf.size), e, inf.size, m.toNat, List.replicate n.toNat (z.cells.toList.map .v), _, _, .inl rfl, ?_, by simp [madeCells], by simp; omega, by simp [maxLen]; omega, ?_, ?_, ?_, .inl ⟨rfl, rfl⟩, ?_⟩
        · simp only [execOp, ho, RV_v hl, RV_v hc, Sem.run_bind, hrun, Result.andThen_ok, Sem.run_pure, List.length_replicate]
        · intro r hr
          rw [List.eq_of_mem_replicate hr]
          simp [hzs]
        · rw [hfl, htake]
          refine RL_vmap _ _ ?_
          rw [List.map_flatten, List.map_replicate]
        · rw [hfl, htake]
          intro y hy
          obtain ⟨l', hl', hy'⟩ := List.mem_flatten.1 hy
          rw [List.eq_of_mem_replicate hl'] at hy'
          exact hz1 y hy'
        · rw [TI.of_size] at h; exact h
      · exact h.elim
    · exact h.elim
end
end Go.Proofs.YtcpefnjofekibaaDoor
