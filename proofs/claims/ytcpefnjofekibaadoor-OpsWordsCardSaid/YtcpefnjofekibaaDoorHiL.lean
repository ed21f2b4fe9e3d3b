/- Part L of the engine: append; bytes and texts. -/
import Derived.Test.YtcpefnjofekibaaDoorHiK
import Derived.Laws.BytesString
namespace Go.Proofs.YtcpefnjofekibaaDoor
open Go.RowKit
set_option linter.unusedVariables false
set_option linter.unusedSimpArgs false

/-- The rows of a slice. -/
def srcRows (H : Heap) (x : HV) : Option (List (List HV)) :=
  match x with
  | .v (.slice none 0 0) => some []
  | .sl rows => some rows
  | .hd id off len =>
    match H[id]? with
    | some (some ob) => if off + len = ob.rows.length then some (ob.rows.drop off) else none
    | _ => none
  | _ => none

def happend (P : Program) (H : Heap) (t : TypeId) (s x : HV) (K : KT) : Prop :=
  match elemTI P t 3, srcRows H x with
  | some (_, e, te), some new =>
    te.size ≠ 0 ∧ (zcells te).isSome = true ∧ tvs new.flatten = true ∧ (∀ r ∈ new, r.length = te.size) ∧
    (match s with
    | .v (.slice none 0 0) => new.length ≤ 140737488355328 ∧ new.length * te.bytes ≤ 140737488355328 ∧ newHd H e te.size new K
    | .hd id 0 len =>
      match H[id]? with
      | some (some ob) => len = ob.rows.length ∧ ob.e = e ∧ ob.sz = te.size ∧ len + new.length ≤ 140737488355328 ∧ (len + new.length) * te.bytes ≤ 140737488355328 ∧
          K (.hd id 0 (len + new.length)) (H.set id (some { ob with rows := ob.rows ++ new }))
      | _ => False
    | _ => False)
  | _, _ => False

section
variable {P : Program} {N : Nat} {T : Nat → HV} {H : Heap} {K : KT} {Z : Nat → Prop} {G : List (Option OG)} {FP : Nat → List Nat} {w : World}

theorem RR_drop {b sz : Nat} : ∀ (rows : List (List HV)) (k l : Nat) (fp : List Nat), (∀ r ∈ rows, r.length = sz) → RR Z G w rows b k fp → ∃ f, RR Z G w (rows.drop l) b (k + l * sz) f ∧ f.Sublist fp
  | rows, k, 0, fp, _, h => ⟨fp, by simpa using h, List.Sublist.refl _⟩
  | [], k, l + 1, fp, _, h => ⟨[], by simp [RR], List.nil_sublist _⟩
  | r :: t, k, l + 1, fp, hu, h => by
    simp only [RR] at h
    obtain ⟨f1, f2, rfl, h1, h2⟩ := h
    obtain ⟨f, h3, h4⟩ := RR_drop t (k + r.length) l f2 (fun x hx => hu x (by simp [hx])) h2
    rw [hu r (by simp)] at h3
    refine ⟨f, ?_, h4.trans (List.sublist_append_right _ _)⟩
    simp only [List.drop_succ_cons]
    rw [show k + (l + 1) * sz = k + sz + l * sz by rw [Nat.add_mul]; omega]
    exact h3

/-- What stands in rows. -/
theorem RR_vals {b sz : Nat} : ∀ (rows : List (List HV)) (k : Nat) (fp : List Nat), (∀ r ∈ rows, r.length = sz) → RR Z G w rows b k fp →
    ∃ ys, RL Z G w rows.flatten ys fp ∧ (∀ (j : Nat) u, ys[j]? = some u → w.cell? ⟨b, k + j, none⟩ = some u) ∧ ∀ u ∈ ys, u.oneCell' = true
  | [], k, fp, _, h => ⟨[], by simpa [RL, RR] using h, by simp, by simp⟩
  | r :: t, k, fp, hu, h => by
    simp only [RR] at h
    obtain ⟨f1, f2, rfl, h1, h2⟩ := h
    obtain ⟨ys1, a1, a2, a3⟩ := RC_vals r k f1 h1
    obtain ⟨ys2, b1, b2, b3⟩ := RR_vals t (k + r.length) f2 (fun x hx => hu x (by simp [hx])) h2
    have hl := RL_length _ _ _ a1
    refine ⟨ys1 ++ ys2, (RL_append _ _ _ _).2 ⟨ys1, ys2, f1, f2, rfl, rfl, a1, b1⟩, fun j u hj => ?_, fun u hu => ?_⟩
    · rw [List.getElem?_append] at hj
      split at hj
      · exact a2 j u hj
      · have := b2 _ u hj
        rw [show k + j = k + r.length + (j - ys1.length) by omega]; exact this
    · rcases List.mem_append.1 hu with hu | hu
      · exact a3 u hu
      · exact b3 u hu

/-- A slice to be read. -/
theorem src_spec (hi : HInv Z G FP H w) {x : HV} {y : Value} {rows : List (List HV)} {sz : Nat} (hs : srcRows H x = some rows) (hsz : ∀ r ∈ rows, r.length = sz) (ht : tvs rows.flatten = true) (hv : RV Z G w x y []) :
    ∃ ys, RL Z G w rows.flatten ys [] ∧ (∀ u ∈ ys, u.oneCell' = true) ∧ ((y = .slice none 0 0 ∧ rows = []) ∨ (rows = [] ∧ ∃ a c, y = .slice a 0 c) ∨ ∃ b o c, y = .slice (some ⟨b, o, none⟩) rows.length c ∧ ∀ (j : Nat) u, ys[j]? = some u → w.cell? ⟨b, o + j, none⟩ = some u) := by
  unfold srcRows at hs
  split at hs
  · cases hs; exact ⟨[], by simp [RL], by simp, .inl ⟨RV_v hv, rfl⟩⟩
  · cases hs
    simp only [RV] at hv
    obtain ⟨_, ad, c, hy, hc, hm, hx⟩ := hv
    rcases hx with rfl | ⟨b, q, rfl, hz, hu, hrr⟩
    · exact ⟨[], by simp [RL], by simp, .inr (.inl ⟨rfl, ad, c, hy⟩)⟩
    · obtain ⟨ys, h1, h2, h3⟩ := RR_vals rows q [] hsz hrr
      exact ⟨ys, RL.keep (fun _ _ => rfl) (fun _ h => h) (nil_GLe _) _ _ _ (fun _ _ => rfl) h1, h3, .inr (.inr ⟨b, q, c, hy, h2⟩)⟩
  · rename_i id off len
    split at hs
    · rename_i ob ho
      split at hs
      · rename_i hn
        cases hs
        obtain ⟨g, hg, hOB, hview⟩ := hd_at hi ho hn hv
        have hlen : (ob.rows.drop off).length = len := by simp; omega
        unfold View at hview
        split at hview
        · rename_i hbn
          obtain ⟨hview, hv1, hv2⟩ := hview
          have hr : ob.rows = [] := by
            rcases hOB.at_ with ⟨_, e1, _⟩ | ⟨b, cells, f, e1, _⟩ | ⟨u3, hs3, obj3, f3, e1, e3, _⟩
            · exact e1
            · rw [hbn] at e1; cases e1
            · have := congrArg List.length e3; simp only [List.length_cons, List.length_nil] at this; omega
          exact ⟨[], by simp [hr, RL], by simp, .inl ⟨hview, by simp [hr]⟩⟩
        · rename_i b hb
          obtain ⟨ad, hy, hA⟩ := hview
          obtain ⟨b', cells, f, e1, e2, e3, e4, e5, e6, e7⟩ := hOB.cells_ hb
          rw [hb] at e1; cases e1
          obtain ⟨f', h1, h2⟩ := RR_drop ob.rows 0 off f hOB.len e7
          have hall : ∀ r ∈ ob.rows.drop off, r.length = ob.sz := fun r hr => hOB.len r (List.mem_of_mem_drop hr)
          obtain ⟨ys, h3, h4, h5⟩ := RR_vals (ob.rows.drop off) _ f' hall h1
          have hf' : f' = [] := RL_tvs _ _ _ ht h3
          subst hf'
          by_cases hl0 : len = 0
          · have : ob.rows.drop off = [] := List.eq_nil_of_length_eq_zero (by omega)
            refine ⟨ys, h3, h5, .inr (.inl ⟨this, some ad, g.cap - off, by rw [hy, hl0]⟩)⟩
          · refine ⟨ys, h3, h5, .inr (.inr ⟨b, off * ob.sz, g.cap - off, ?_, fun j u hj => ?_⟩)⟩
            · rw [hy, hlen, hA (.inl hl0), hOB.sz]
            · have := h4 j u hj; rwa [Nat.zero_add] at this
      · cases hs
    · cases hs
  · cases hs

theorem append_nothing {t ty e : TypeId} {te : TI} (hs1 : P.underlying t = some (.slice e)) (hs2 : ti P e = some te) {a a' : Option Addr} {n c c' : Nat} (hn : n ≤ c) :
    (Builtin.append_ #[t, t] ty #[.slice a n c, .slice a' 0 c']).run P w = .ok (.slice a n c) w := by
  have hst : ∀ ad : Addr, (storeCells ad [] : Sem Unit) = pure () := fun ad => by simp [storeCells]
  have hf : ∀ sz : Nat, (Builtin.firstCells sz 0 (.slice a' 0 c')).run P w = .ok #[] w := by
    intro sz
    cases a' with
    | none => simp [Builtin.firstCells]
    | some ad => simp [Builtin.firstCells, loadCells, loadCellsFrom]
  cases a <;> simp [Builtin.append_, run_underlying hs1, run_sizeOf hs2, Builtin.lenOf, hn, hf, hst]

/-- The rows of an object, and what is put behind them, at a block of the new world. -/
theorem OB_more {G' : List (Option OG)} {w' : World} {ob : HObj} {g' : OG} {new : List (List HV)} {olds news : List Value} {f : List Nat} {b : Nat} {cells : Array Value} {G : List (Option OG)}
    (he : g'.e = ob.e) (hsz : g'.sz = ob.sz) (hn : g'.n = (ob.rows ++ new).length) (hb : g'.blk = some b) (hlen : ∀ r ∈ ob.rows, r.length = ob.sz) (hlen' : ∀ r ∈ new, r.length = ob.sz)
    (hh : w'.heap[b]? = some (.cells cells ob.e (0, 0))) (hc : cells.size = g'.cap * ob.sz) (hcap : (ob.rows ++ new).length ≤ g'.cap) (hm : g'.cap ≤ maxLen)
    (htake : cells.toList.take ((ob.rows ++ new).length * ob.sz) = olds ++ news) (ho : RL Z G w ob.rows.flatten olds f) (hnw : RL Z G w new.flatten news []) (h1 : ∀ u ∈ olds ++ news, u.oneCell' = true)
    (hG : GLe G G') (hZ : ∀ z, Z z → w'.heap[z]? = w.heap[z]?) (hf : ∀ z ∈ f, w'.heap[z]? = w.heap[z]?) : OB Z G' w' { ob with rows := ob.rows ++ new } g' (b :: f) := by
  have hall : ∀ r ∈ ob.rows ++ new, r.length = ob.sz := fun r hr => by
    rcases List.mem_append.1 hr with hr | hr
    · exact hlen r hr
    · exact hlen' r hr
  refine ⟨he, hsz, hn, hall, .inr (.inl ⟨b, cells, f, hb, rfl, hh, hc, hcap, hm, ?_⟩)⟩
  have hfl := flat_len _ hall
  refine (RR_iff hh _ 0 _ (Nat.zero_le _)).2 ⟨?_, ?_, ?_⟩
  · show 0 + (ob.rows ++ new).flatten.length ≤ cells.size
    rw [hfl, hc, Nat.zero_add]; exact Nat.mul_le_mul_right _ hcap
  · show RL Z G' w' (ob.rows ++ new).flatten ((cells.toList.drop 0).take (ob.rows ++ new).flatten.length) f
    rw [hfl, List.drop_zero, htake, List.flatten_append]
    refine (RL_append _ _ _ _).2 ⟨olds, news, f, [], rfl, by simp, ?_, ?_⟩
    · exact RL.keep hZ (fun _ h => h) hG _ _ _ hf ho
    · exact RL.keep hZ (fun _ h => h) hG _ _ _ (by simp) hnw
  · show ∀ y ∈ (cells.toList.drop 0).take (ob.rows ++ new).flatten.length, y.oneCell' = true
    rw [hfl, List.drop_zero, htake]; exact h1

theorem size_zc (z : Array Value) (n : Nat) : (Builtin.zeroCells z n).size = n * z.size := by simp [Builtin.zeroCells]

theorem HR_append {o : Oper} {t : TypeId} {s x : Operand} (ho : o.op = .call { callee := .builtin .append, args := #[s, x], argTypes := #[t, t] }) (hok : operOk N o = true) (h : happend P H t (hev T s) (hev T x) K) : HR P N o T H K := by
  intro B Z G FP ds a w hs
  have hvs := hs.hev s (opds_mem hok (by simp [ho, Op.operands, Call.operands]))
  have hvx := hs.hev x (opds_mem hok (by simp [ho, Op.operands, Call.operands]))
  have hexec : ∀ v w', (Builtin.append_ #[t, t] o.type #[a.eval s, a.eval x]).run P w = .ok v w' → (execOp a.eval o).run P w = .ok (.value v) w' := by
    intro v w' hr
    simp only [execOp, ho, resolve, invoke, builtin, Sem.run_bind, Sem.run_pure, Result.andThen_ok, List.map_toArray, List.map_cons, List.map_nil, hr]
  unfold happend at h
  split at h
  · rename_i tx e te new helem hsrc
    obtain ⟨hsz0, hzc, htv, hnl, h⟩ := h
    obtain ⟨hs1, hs2⟩ := elem_slice helem
    obtain ⟨zc, hzc⟩ := Option.isSome_iff_exists.1 hzc
    obtain ⟨z, hz, rfl, hz1, hzs⟩ := zcells_spec hzc
    obtain ⟨td, inf, htd, hinf, rfl⟩ := ti_spec hs2
    rw [TI.of_zero] at hz
    rw [TI.of_size] at hzs hnl hsz0
    obtain ⟨news, hnews, hn1, hsy⟩ := src_spec hs.inv hsrc hnl htv hvx
    have hnfl := flat_len _ hnl
    have hnll := RL_length _ _ _ hnews
    rw [hnfl] at hnll
    split at h
    · -- on none
      rename_i es
      rw [es] at hvs
      have hvs := RV_v hvs
      obtain ⟨hb1, hb2, hK⟩ := h
      rw [TI.of_bytes] at hb2
      unfold newHd at hK
      by_cases hnew : new = []
      · subst hnew
        -- nothing: no row as yet
        obtain ⟨a', c', hy⟩ : ∃ a' c', a.eval x = .slice a' 0 c' := by
          rcases hsy with ⟨hy, _⟩ | ⟨_, a', c', hy⟩ | ⟨b, q, c, hy, _⟩
          · exact ⟨none, 0, hy⟩
          · exact ⟨a', c', hy⟩
          · exact ⟨_, c, hy⟩
        have hrun := append_nothing (P := P) (w := w) (ty := o.type) hs1 hs2 (a := none) (a' := a') (n := 0) (c := 0) (c' := c') (Nat.le_refl _)
        have hlt := hs.inv.len
        refine ⟨.value (.slice none 0 0), _, w, .hd H.length 0 0, _, Z, G ++ [some ⟨none, e, (TI.of td inf).size, 0, 0⟩], _, ?_, .inl rfl, hK, ?_, hs.inv.new (Nat.le_refl _) (fun _ _ => rfl) (fp := []) (g := ⟨none, e, (TI.of td inf).size, 0, 0⟩) ⟨rfl, rfl, rfl, by simp, .inl ⟨rfl, rfl, rfl⟩⟩ (by simp) (by simp), GLe.more _, evo_new (hs.inv.nofp _ (by simp)) rfl rfl rfl (Nat.le_refl _) (fun _ _ => rfl) (by simp)⟩
        · exact hexec _ _ (by rw [hvs, hy]; exact hrun)
        · simp only [RV]
          rw [← hs.inv.len]
          refine ⟨trivial, rfl, by simp, fun g hg => ?_⟩
          simp at hg; subst hg
          exact ⟨Nat.le_refl _, fun _ => ⟨rfl, rfl, rfl⟩⟩
      · have hpos : 0 < new.length := by cases new with | nil => exact absurd rfl hnew | cons r t => simp
        obtain ⟨b, q, c, hy, hcell⟩ : ∃ b q c, a.eval x = .slice (some ⟨b, q, none⟩) new.length c ∧ ∀ (j : Nat) u, news[j]? = some u → w.cell? ⟨b, q + j, none⟩ = some u := by
          rcases hsy with ⟨_, hc⟩ | ⟨hc, _⟩ | h
          · exact absurd hc hnew
          · exact absurd hc hnew
          · exact h
        have hcell' : ∀ (j : Nat) u, news[j]? = some u → w.cell? ((⟨b, q, none⟩ : Addr).add j) = some u := fun j u hj => by rw [add_lit]; exact hcell j u hj
        have hrun := run_append_nil (P := P) w t o.type e inf z hs1 hinf hz ⟨b, q, none⟩ new.length c news hnll hcell' hpos (by omega) (by omega)
        have hge := grownCap_ge w new.length 0 e
        have hle := grownCap_le_maxLen w new.length 0 e (by simp only [maxLen]; omega)
        obtain ⟨FP', i1, i2, i3, i4⟩ := lay (e := e) (sz := (TI.of td inf).size) (cap := grownCap w new.length 0 e) (rows := new) (cells := news.toArray ++ Builtin.zeroCells z.cells (grownCap w new.length 0 e - new.length)) (w1 := w.drew) hs.inv (.inr rfl)
          (by simp only [Array.size_append, List.size_toArray, size_zc, hzs, hnll, TI.of_size, ← Nat.add_mul]; congr 1; omega) hge hle (by rw [TI.of_size]; exact hnl)
          (by rw [hnfl]; simp only [Array.toList_append, List.take_left' hnll]; exact hnews) (by rw [hnfl]; simp only [Array.toList_append, List.take_left' hnll]; exact hn1)
        refine ⟨_, _, _, _, _, Z, _, FP', ?_, .inl rfl, hK, i3, i1, GLe.more _, i2⟩
        exact hexec _ _ (by rw [hvs, hy]; exact hrun)
    · -- on an object
      rename_i id len es
      rw [es] at hvs
      split at h
      · rename_i ob hob
        obtain ⟨hn, hoe, hosz, hb1, hb2, hK⟩ := h
        rw [TI.of_bytes] at hb2
        rw [TI.of_size] at hosz
        obtain ⟨g, hg, hOB, hview⟩ := hd_at hs.inv hob (by omega) hvs
        have hlt := hs.inv.lt hob
        by_cases hnew : new = []
        · subst hnew
          obtain ⟨a', c', hy⟩ : ∃ a' c', a.eval x = .slice a' 0 c' := by
            rcases hsy with ⟨hy, _⟩ | ⟨_, a', c', hy⟩ | ⟨b, q, c, hy, _⟩
            · exact ⟨none, 0, hy⟩
            · exact ⟨a', c', hy⟩
            · exact ⟨_, c, hy⟩
          have hset : H.set id (some { ob with rows := ob.rows ++ [] }) = H := by rw [List.append_nil]; exact set_self hob
          rw [hset] at hK
          obtain ⟨a0, c0, hys, hle⟩ : ∃ a0 c0, a.eval s = .slice a0 len c0 ∧ len ≤ c0 := by
            unfold View at hview
            split at hview
            · rename_i hbn
              obtain ⟨hview, hv1, hv2⟩ := hview
              have : len = 0 := by
                rcases hOB.at_ with ⟨_, e1, _⟩ | ⟨b, cells, f, e1, _⟩ | ⟨u3, hs3, obj3, f3, e1, e3, _⟩
                · rw [e1] at hn; simpa using hn
                · rw [hbn] at e1; cases e1
                · have := congrArg List.length e3; simp only [List.length_cons, List.length_nil] at this; omega
              subst this
              exact ⟨none, 0, hview, Nat.le_refl _⟩
            · rename_i b hb
              obtain ⟨ad, hy, _⟩ := hview
              refine ⟨some ad, _, hy, ?_⟩
              obtain ⟨b', cells, f, e1, e2, e3, e4, e5, _⟩ := hOB.cells_ hb
              · omega
          have hrun := append_nothing (P := P) (w := w) (ty := o.type) hs1 hs2 (a := a0) (a' := a') (n := len) (c := c0) (c' := c') hle
          refine ⟨.value (a.eval s), _, w, .hd id 0 len, H, Z, G, FP, ?_, .inl rfl, hK, hvs, hs.inv, GLe.refl _, Evo.refl _ _ _⟩
          rw [hys]; exact hexec _ _ (by rw [hys, hy]; exact hrun)
        · have hpos : 0 < new.length := by cases new with | nil => exact absurd rfl hnew | cons r t => simp
          obtain ⟨b, q, c, hy, hcell⟩ : ∃ b q c, a.eval x = .slice (some ⟨b, q, none⟩) new.length c ∧ ∀ (j : Nat) u, news[j]? = some u → w.cell? ⟨b, q + j, none⟩ = some u := by
            rcases hsy with ⟨_, hc⟩ | ⟨hc, _⟩ | h
            · exact absurd hc hnew
            · exact absurd hc hnew
            · exact h
          have hcell' : ∀ (j : Nat) u, news[j]? = some u → w.cell? ((⟨b, q, none⟩ : Addr).add j) = some u := fun j u hj => by rw [add_lit]; exact hcell j u hj
          have hnl' : ∀ r ∈ new, r.length = ob.sz := by rw [hosz]; exact hnl
          have holen := flat_len _ hOB.len
          -- a new world, in which the object is as long as it must be
          have fin : ∀ (w' : World) (b' : Nat) (cap' : Nat) (cells' : Array Value) (olds : List Value) (f : List Nat), (execOp a.eval o).run P w = .ok (.value (.slice (some ⟨b', 0, none⟩) (len + new.length) cap')) w' →
              w'.os = w.os → w'.tape = w.tape → w'.output = w.output → w.heap.size ≤ w'.heap.size → (∀ z, z < w.heap.size → z ∉ FP id → w'.heap[z]? = w.heap[z]?) →
              w'.heap[b']? = some (.cells cells' ob.e (0, 0)) → cells'.size = cap' * ob.sz → len + new.length ≤ cap' → cap' ≤ maxLen → cells'.toList.take ((ob.rows ++ new).length * ob.sz) = olds ++ news →
              RL Z G w ob.rows.flatten olds f → (∀ u ∈ olds ++ news, u.oneCell' = true) → (∀ z ∈ f, w'.heap[z]? = w.heap[z]?) → (b' :: f).Nodup → (∀ z ∈ f, z ∈ FP id) → (b' ∈ FP id ∨ w.heap.size ≤ b') → b' < w'.heap.size →
              ∃ r v w' x H' Z' G' FP', (execOp a.eval o).run P w = .ok r w' ∧ (r = .value v ∨ (r = .skip ∧ v = undef)) ∧ K x H' ∧ RV Z' G' w' x v [] ∧ HInv Z' G' FP' H' w' ∧ GLe G G' ∧ Evo Z FP w Z' FP' w' := by
            intro w' b' cap' cells' olds f hrun hos htp hout hsize hkeep hh hcs hcap hmax htake holds h1 hfk hnd hfown hbown hblt
            have hZk : ∀ z, Z z → w'.heap[z]? = w.heap[z]? := fun z hz => hkeep z (hs.inv.zlt z hz) (fun hc => hs.inv.zfp id z hc hz)
            have hgn : g.n = len := by rw [hOB.n, hn]
            have hn' : (ob.rows ++ new).length = len + new.length := by rw [List.length_append, hn]
            have hge : GLe G (G.set id (some ⟨some b', ob.e, ob.sz, len + new.length, cap'⟩)) := GLe.set hg (.inr (by rw [hgn]; show len < len + new.length; omega))
            have hob' : OB Z (G.set id (some ⟨some b', ob.e, ob.sz, len + new.length, cap'⟩)) w' { ob with rows := ob.rows ++ new } ⟨some b', ob.e, ob.sz, len + new.length, cap'⟩ (b' :: f) :=
              OB_more rfl rfl hn'.symm rfl hOB.len hnl' hh hcs (by rw [hn']; exact hcap) hmax htake holds hnews h1 hge hZk hfk
            have hturn := hs.inv.turn hob hg (g' := ⟨some b', ob.e, ob.sz, len + new.length, cap'⟩) (.inr (by rw [hgn]; show len < len + new.length; omega)) hsize hkeep hob' hnd (fun z hz => by
              have hz' : z ∈ FP id ∨ (w.heap.size ≤ z ∧ z < w'.heap.size) := by
                rcases List.mem_cons.1 hz with rfl | hz
                · exact hbown.imp (fun h => h) fun h => ⟨h, hblt⟩
                · exact .inl (hfown z hz)
              rcases hz' with h | h
              · exact ⟨hs.inv.zfp id z h, Nat.lt_of_lt_of_le (hs.inv.flt id z h) hsize, fun j hj hc => hj (hs.inv.disj j id z hc h)⟩
              · exact ⟨fun hc => by have := hs.inv.zlt z hc; omega, h.2, fun j hj hc => by have := hs.inv.flt j z hc; omega⟩)
            refine ⟨.value (.slice (some ⟨b', 0, none⟩) (len + new.length) cap'), _, w', .hd id 0 (len + new.length), _, Z, _, _, hrun, .inl rfl, hK, ?_, hturn, hge, evo_turn hos htp hout hsize hkeep (fun z hz => by
              rcases List.mem_cons.1 hz with rfl | hz
              · exact hbown.elim (fun h => .inr ⟨_, h⟩) .inl
              · exact .inr ⟨_, hfown z hz⟩)⟩
            simp only [RV]
            refine ⟨trivial, rfl, by simpa using hlt, fun g' hg' => ?_⟩
            simp [hlt] at hg'; subst hg'
            refine ⟨by simp, fun _ => ?_⟩
            unfold View
            exact ⟨⟨b', 0, none⟩, by simp, fun _ => by simp⟩
          have allocd : ∀ (olds : List Value) (f : List Nat) (cap0 : Nat), RL Z G w ob.rows.flatten olds f → olds.length = len * inf.size → (∀ u ∈ olds, u.oneCell' = true) → (∀ z ∈ f, z ∈ FP id) → f.Nodup →
              (Builtin.append_ #[t, t] o.type #[a.eval s, a.eval x]).run P w = .ok (.slice (some ⟨w.heap.size, 0, none⟩) (len + new.length) (grownCap w (len + new.length) cap0 e)) (w.drew.alloc (.cells (olds.toArray ++ news.toArray ++ Builtin.zeroCells z.cells (grownCap w (len + new.length) cap0 e - (len + new.length))) e)) →
              ∃ r v w' x H' Z' G' FP', (execOp a.eval o).run P w = .ok r w' ∧ (r = .value v ∨ (r = .skip ∧ v = undef)) ∧ K x H' ∧ RV Z' G' w' x v [] ∧ HInv Z' G' FP' H' w' ∧ GLe G G' ∧ Evo Z FP w Z' FP' w' := by
            intro olds f cap0 holds hol ho1 hfown hfnd hrun
            have hge := grownCap_ge w (len + new.length) cap0 e
            have hle := grownCap_le_maxLen w (len + new.length) cap0 e (by simp only [maxLen]; omega)
            have hn' : (ob.rows ++ new).length = len + new.length := by rw [List.length_append, hn]
            refine fin _ _ _ _ olds f (hexec _ _ hrun) rfl rfl rfl (by simp) (fun z hz _ => heap_alloc_old w.drew _ hz) (by rw [hoe]; exact heap_alloc_new w.drew _) ?_ hge hle ?_ holds ?_ (fun z hz => heap_alloc_old w.drew _ (hs.inv.flt id z (hfown z hz))) ?_ hfown (.inr (Nat.le_refl _)) (by simp)
            · simp only [Array.size_append, List.size_toArray, size_zc, hzs, hol, hnll, hosz, ← Nat.add_mul]; congr 1; omega
            · rw [hn', hosz]
              simp only [Array.toList_append]
              rw [List.take_left' (by simp [hol, hnll, Nat.add_mul])]
            · intro u hu
              rcases List.mem_append.1 hu with hu | hu
              · exact ho1 u hu
              · exact hn1 u hu
            · refine List.nodup_cons.2 ⟨fun hc => ?_, hfnd⟩
              have := hs.inv.flt id _ (hfown _ hc)
              omega
          unfold View at hview
          split at hview
          · rename_i hbn
            obtain ⟨hview, hv1, hv2⟩ := hview
            have hrows : ob.rows = [] := by
              rcases hOB.at_ with ⟨_, e1, _⟩ | ⟨b, cells, f, e1, _⟩ | ⟨u3, hs3, obj3, f3, e1, e3, _⟩
              · exact e1
              · rw [hbn] at e1; cases e1
              · have := congrArg List.length e3; simp only [List.length_cons, List.length_nil] at this; omega
            have hl0 : len = 0 := by rw [hn, hrows]; rfl
            subst hl0
            refine allocd [] [] 0 (by rw [hrows]; simp [RL]) (by simp) (by simp) (by simp) (by simp) ?_
            have hrun := run_append_nil (P := P) w t o.type e inf z hs1 hinf hz ⟨b, q, none⟩ new.length c news hnll hcell' hpos (by omega) (by simpa using Nat.le_trans hb2 (by omega))
            rw [hview, hy, Nat.zero_add]
            simpa using hrun
          · rename_i b0 hb0
            obtain ⟨ad, hys, hA⟩ := hview
            rw [hA (.inr rfl)] at hys
            simp only [Nat.zero_mul, Nat.sub_zero] at hys
            obtain ⟨b', cells, f, e1, e2, e3, e4, e5, e6, e7⟩ := hOB.cells_ hb0
            rw [hb0] at e1; cases e1
            obtain ⟨k1, k2, k3⟩ := (RR_iff e3 ob.rows 0 f (Nat.zero_le _)).1 e7
            simp only [List.drop_zero, Nat.zero_add] at k1 k2 k3
            rw [holen, ← hn, hosz] at k1 k2 k3
            have hnd := hs.inv.nodup id
            rw [e2] at hnd
            have hcs : cells.size = g.cap * inf.size := by rw [e4, hosz]
            have hfin : ∀ z ∈ f, z ∈ FP id := fun z hz => by rw [e2]; simp [hz]
            by_cases hroom : len + new.length ≤ g.cap
            · have hmul : (len + new.length) * inf.size ≤ cells.size := by rw [hcs]; exact Nat.mul_le_mul_right _ hroom
              rw [Nat.add_mul] at hmul
              have hrun := run_append_room (P := P) w t o.type e inf hs1 hinf b0 len g.cap cells (by rw [← hoe]; exact e3) ⟨b, q, none⟩ new.length c news hnll hcell' hn1 hroom (by rw [hnll]; exact hmul)
              rw [← hys, ← hy] at hrun
              have hx := hexec _ _ hrun
              have hlc : (cells.toList.take (len * inf.size) ++ news ++ cells.toList.drop (len * inf.size + news.length)).length = cells.size := by
                simp only [List.length_append, List.length_take, List.length_drop, Array.length_toList, hnll]; omega
              have hn' : (ob.rows ++ new).length = len + new.length := by rw [List.length_append, hn]
              refine fin _ b0 g.cap _ (cells.toList.take (len * inf.size)) f hx rfl rfl rfl (by simp) (fun z _ hz => setRow_other w b0 z _ (fun e => hz (by rw [e2, e]; simp))) (setRow_heap w b0 cells _ ob.e (0, 0) e3) ?_ hroom e6 ?_ k2 ?_ (fun z hz => setRow_other w b0 z _ (fun e => (List.nodup_cons.1 hnd).1 (e ▸ hz))) hnd hfin (.inl (by rw [e2]; simp)) (by simpa using hs.inv.flt id b0 (by rw [e2]; simp))
              · simp only [List.size_toArray]; rw [hlc, e4]
              · rw [hn', hosz]
                simp only []
                rw [List.take_left' (by simp only [List.length_append, List.length_take, Array.length_toList, hnll, Nat.add_mul]; omega)]
              · intro u hu
                rcases List.mem_append.1 hu with hu | hu
                · exact k3 u hu
                · exact hn1 u hu
            · refine allocd (cells.toList.take (len * inf.size)) f g.cap k2 (by simp only [List.length_take, Array.length_toList]; omega) k3 hfin (List.nodup_cons.1 hnd).2 ?_
              have hgrow := run_append_grow (P := P) w t o.type e inf z hs1 hinf hz ⟨b0, 0, none⟩ len g.cap (cells.toList.take (len * inf.size)) (by simp only [List.length_take, Array.length_toList]; omega) (fun j v hj => by
                  rw [add_lit, cell_of_row w b0 _ cells ob.e (0, 0) e3]
                  rw [List.getElem?_take] at hj
                  split at hj
                  · simpa using hj
                  · cases hj) ⟨b, q, none⟩ new.length c news hnll hcell' (by omega) (by omega) (growslice_fits (by omega) hb2)
              rw [hys, hy]
              exact hgrow
      · exact h.elim
    · exact h.elim
  · exact h.elim

/-- Rows of one byte each. -/
def bytesOf : List (List HV) → Option (List UInt8)
  | [] => some []
  | [.v (.int .u8 n)] :: t => (bytesOf t).map (UInt8.ofNat n.toNat :: ·)
  | _ => none

def byteRow (b : UInt8) : List HV := [.v (.int .u8 (b.toNat : Int))]

theorem bytesOf_map (l : List UInt8) : bytesOf (l.map byteRow) = some l := by
  induction l with
  | nil => rfl
  | cons b l ih => simp [bytesOf, byteRow, ih]

def hconvS (P : Program) (H : Heap) (src dst : TypeId) (x : HV) (K : HV → Prop) : Prop :=
  match elemTI P src 3, srcRows H x with
  | some (_, e, te), some rows => intTy P e = some .u8 ∧ kindIs P dst 4 = true ∧ (match bytesOf rows with
    | some l => K (.v (str l))
    | none => False)
  | _, _ => False

theorem bytesOf_spec : ∀ (rows : List (List HV)) (l : List UInt8), bytesOf rows = some l → (∀ r ∈ rows, r.length = 1) ∧ tvs rows.flatten = true ∧ ∀ ys fp, RL Z G w rows.flatten ys fp → ∃ ns : List Int, ys = ns.map (Value.int .u8) ∧ l = ns.map fun n => UInt8.ofNat n.toNat
  | [], l, h => by
    simp only [bytesOf, Option.some.injEq] at h
    subst h
    refine ⟨by simp, rfl, fun ys fp hr => ⟨[], ?_, rfl⟩⟩
    simp only [List.flatten_nil, RL] at hr
    simpa using hr.1
  | r :: t, l, h => by
    unfold bytesOf at h
    split at h
    · cases ‹_ :: _ = []›
    · rename_i n t' heq
      simp only [List.cons.injEq] at heq
      obtain ⟨rfl, rfl⟩ := heq
      cases hb : bytesOf t with
      | none => simp [hb] at h
      | some l' =>
        simp [hb] at h
        subst h
        obtain ⟨h1, h2, h3⟩ := bytesOf_spec t l' hb
        refine ⟨fun r hr => ?_, by simpa [tvs, tv] using h2, fun ys fp hr => ?_⟩
        · rcases List.mem_cons.1 hr with rfl | hr
          · rfl
          · exact h1 r hr
        · simp only [List.flatten_cons, List.cons_append, List.nil_append, RL] at hr
          obtain ⟨y, ys', f1, f2, rfl, rfl, hy, hrest⟩ := hr
          obtain ⟨ns, rfl, rfl⟩ := h3 ys' f2 hrest
          exact ⟨n :: ns, by rw [RV_v hy]; rfl, rfl⟩
    · cases h

theorem foldl_push (ns : List Int) : ∀ s : ByteArray, ns.foldl (fun r n => r.push (UInt8.ofNat n.toNat)) s = ⟨s.data ++ (ns.map fun n => UInt8.ofNat n.toNat).toArray⟩ := by
  induction ns with
  | nil => intro s; simp
  | cons n ns ih =>
    intro s
    simp only [List.foldl_cons, ih, List.map_cons]
    congr 1
    apply Array.ext'
    simp [ByteArray.push]

theorem HR_convS {o : Oper} {src dst : TypeId} {x : Operand} (ho : o.op = .convert src dst x) (hok : operOk N o = true) (h : hconvS P H src dst (hev T x) (fun v => K v H)) : HQ P N o T H K :=
  fun B Z G FP ds a w hs => by
    have hx := hs.hev x (opds_mem hok (by simp [ho, Op.operands]))
    unfold hconvS at h
    split at h
    · rename_i x0 e te rows he hsrc
      obtain ⟨h1, h2, h⟩ := h
      split at h
      · rename_i l hl
        obtain ⟨b1, b2, b3⟩ := bytesOf_spec (Z := Z) (G := G) (w := w) rows l hl
        obtain ⟨hs1, hs2⟩ := elem_slice he
        obtain ⟨ys, hys, _, hy⟩ := src_spec hs.inv hsrc b1 b2 hx
        obtain ⟨ns, rfl, rfl⟩ := b3 ys [] hys
        have hlen := RL_length _ _ _ hys
        rw [flat_len _ b1, Nat.mul_one, List.length_map] at hlen
        have hu := intTy_spec h1
        have hd := kind_string h2
        refine ⟨str (ns.map fun n => UInt8.ofNat n.toNat), _, ?_, h, by simp [RV]⟩
        have hconv : ∀ a' l' c', a.eval x = .slice a' l' c' → (Conv.bytesToString (.slice a' l' c')).run P w = .ok (str (ns.map fun n => UInt8.ofNat n.toNat)) w → (execOp a.eval o).run P w = .ok (.value (str (ns.map fun n => UInt8.ofNat n.toNat))) w := by
          intro a' l' c' hy' hr
          simp only [execOp, ho, hy', Sem.run_bind, run_convert_bytes_string w src dst e a' l' c' hs1 hu hd, hr, Result.andThen_ok, Sem.run_pure]
        have hempty : rows = [] → ns = [] := fun e => by subst e; simpa using hlen
        rcases hy with ⟨hy, hr⟩ | ⟨hr, a', c', hy⟩ | ⟨b, q, c, hy, hc⟩
        · refine hconv _ _ _ hy ?_
          rw [hempty hr]
          simp [Conv.bytesToString, str]; rfl
        · refine hconv _ _ _ hy ?_
          rw [hempty hr]
          cases a' with
          | none => simp [Conv.bytesToString, str]; rfl
          | some ad =>
            rw [run_bytesToString w ad 0 c' [] (by simp [loadCells, loadCellsFrom])]
            rfl
        · refine hconv _ _ _ hy ?_
          rw [run_bytesToString w ⟨b, q, none⟩ rows.length c ns ?_, foldl_push]
          · simp [str]
          · have := run_loadCells_list (P := P) w ⟨b, q, none⟩ (ns.map (Value.int .u8)) (fun j u hj => by rw [add_lit]; exact hc j u hj)
            rw [List.length_map, hlen] at this
            exact this
      · exact h.elim
    · exact h.elim

theorem RR_take {b sz : Nat} : ∀ (rows : List (List HV)) (k n : Nat) (fp : List Nat), RR Z G w rows b k fp → ∃ f, RR Z G w (rows.take n) b k f ∧ f.Sublist fp
  | rows, k, 0, fp, _ => ⟨[], by simp [RR], List.nil_sublist _⟩
  | [], k, n + 1, fp, _ => ⟨[], by simp [RR], List.nil_sublist _⟩
  | r :: t, k, n + 1, fp, h => by
    simp only [RR] at h
    obtain ⟨f1, f2, rfl, h1, h2⟩ := h
    obtain ⟨f, h3, h4⟩ := RR_take (sz := sz) t (k + r.length) n f2 h2
    refine ⟨f1 ++ f, ?_, List.Sublist.append (List.Sublist.refl _) h4⟩
    simp only [List.take_succ_cons, RR]
    exact ⟨f1, f, rfl, h1, h3⟩

/-- The first rows of an object: the object is those from now on, under a new name. -/
def hcutT (P : Program) (T : Nat → HV) (H : Heap) (t : TypeId) (x : HV) (hi : Operand) (K : KT) : Prop :=
  match x with
  | .hd id 0 len =>
    match elemTI P t 3, cutHi T len (some hi) with
    | some (_, _, e), some h =>
      match H[id]? with
      | some (some ob) => len = ob.rows.length ∧ ob.sz = e.size ∧ 0 ≤ h ∧ h ≤ (len : Int) ∧ K (.hd H.length 0 h.toNat) (H.set id none ++ [some { ob with rows := ob.rows.take h.toNat }])
      | _ => False
    | _, _ => False
  | _ => False

theorem HR_cutT {o : Oper} {t : TypeId} {x hi : Operand} (ho : o.op = .slice t x none (some hi) none) (hok : operOk N o = true) (h : hcutT P T H t (hev T x) hi K) : HR P N o T H K := by
  intro B Z G FP ds a w hs
  have hx := hs.hev x (opds_mem hok (by simp [ho, Op.operands]))
  have hhok : ∀ y, some hi = some y → opdOk N y = true := fun y hy => opds_mem hok (by cases hy; simp [ho, Op.operands])
  unfold hcutT at h
  split at h
  · rename_i id len ex
    rw [ex] at hx
    split at h
    · rename_i x0 e0 te hh he hhh
      split at h
      · rename_i ob hob
        obtain ⟨hn, hsz, h0, h1, hK⟩ := h
        obtain ⟨hs1, hs2⟩ := elem_slice he
        obtain ⟨g, hg, hOB, hview⟩ := hd_at hs.inv hob (by omega) hx
        have hlt := hs.inv.lt hob
        have hltH : id < H.length := by rw [← hs.inv.len]; exact hlt
        have i1 := hs.inv.kill id
        have hlen1 : (H.set id none).length = H.length := by simp
        have hfp : ∀ b, b ∈ FP id → ¬ Z b ∧ b < w.heap.size ∧ ∀ j, b ∉ (if j = id then [] else FP j) := fun b hb =>
          ⟨hs.inv.zfp id b hb, hs.inv.flt id b hb, fun j hj => by
            by_cases e : j = id
            · simp [e] at hj
            · simp only [if_neg e] at hj; exact e (hs.inv.disj j id b hj hb)⟩
        have htl : (ob.rows.take hh.toNat).length = hh.toNat := by simp; omega
        have fin : ∀ (v : Value) (gn : OG) (fn : List Nat), (execOp a.eval o).run P w = .ok (.value v) w → v.oneCell' = true → gn.n = hh.toNat → View gn 0 hh.toNat v →
            OB Z (G.set id none ++ [some gn]) w { ob with rows := ob.rows.take hh.toNat } gn fn → fn.Nodup → (∀ b ∈ fn, b ∈ FP id) →
            ∃ r v w' x H' Z' G' FP', (execOp a.eval o).run P w = .ok r w' ∧ (r = .value v ∨ (r = .skip ∧ v = undef)) ∧ K x H' ∧ RV Z' G' w' x v [] ∧ HInv Z' G' FP' H' w' ∧ GLe G G' ∧ Evo Z FP w Z' FP' w' := by
          intro v gn fn hrun hv1 hgn hvw hob' hnd hsub
          have i2 := i1.new (w' := w) (o := { ob with rows := ob.rows.take hh.toNat }) (g := gn) (fp := fn) (Nat.le_refl _) (fun _ _ => rfl) hob' hnd (fun b hb => hfp b (hsub b hb))
          refine ⟨.value v, v, w, _, _, Z, _, _, hrun, .inl rfl, hK, ?_, i2, (GLe.kill id).trans (GLe.more _), ?_⟩
          · simp only [RV]
            refine ⟨trivial, hv1, by simp [← hs.inv.len], fun g' hg' => ?_⟩
            rw [← hs.inv.len, List.getElem?_append_right (by simp)] at hg'
            simp at hg'; subst hg'
            exact ⟨by omega, fun _ => hvw⟩
          · refine ⟨rfl, rfl, rfl, Nat.le_refl _, fun _ _ _ => rfl, fun _ h => h, fun _ h => .inl h, fun j b hb => ?_⟩
            split at hb
            · exact .inr ⟨id, hsub b hb⟩
            · split at hb
              · simp at hb
              · exact .inr ⟨j, hb⟩
        unfold View at hview
        split at hview
        · rename_i hbn
          obtain ⟨hview, hv1, hv2⟩ := hview
          have hrows : ob.rows = [] := by
            rcases hOB.at_ with ⟨_, e1, _⟩ | ⟨b, cells, f, e1, _⟩ | ⟨u3, hs3, obj3, f3, e1, e3, _⟩
            · exact e1
            · rw [hbn] at e1; cases e1
            · have := congrArg List.length e3; simp only [List.length_cons, List.length_nil] at this; omega
          have hl0 : len = 0 := by rw [hn, hrows]; rfl
          have hh0 : hh = 0 := by omega
          subst hh0
          have hbd := cut_bounds (P := P) (isS := true) (len := len) (cap := 0) hs (lo := none) (hi := some hi) rfl hhh (by simp) hhok (by simp) (by simp) (by simp)
          refine fin (.slice none 0 0) ⟨none, ob.e, ob.sz, 0, 0⟩ [] ?_ rfl rfl (by unfold View; exact ⟨rfl, rfl, by simp⟩) ⟨rfl, rfl, by simp, by simp, .inl ⟨rfl, by simp, rfl⟩⟩ (by simp) (by simp)
          simp only [execOp, ho, hview, Instr.sliceAt, Instr.slice, Option.map_none, Sem.run_bind, run_underlying hs1, Result.andThen_ok, run_sizeOf hs2, Sem.run_pure]
          rw [hl0] at hbd
          simp only [Option.map_none] at hbd
          rw [hbd]
          simp [run_sizeOf hs2]
        · rename_i b hb
          obtain ⟨ad, hy, hA⟩ := hview
          obtain ⟨b', cells, f, e1, e2, e3, e4, e5, e6, e7⟩ := hOB.cells_ hb
          rw [hb] at e1; cases e1
          obtain ⟨f', hf1, hf2⟩ := RR_take (sz := ob.sz) ob.rows 0 hh.toNat f e7
          have hnd := hs.inv.nodup id
          rw [e2] at hnd
          have hbd := cut_bounds (P := P) (isS := true) (len := len) (cap := g.cap) hs (lo := none) (hi := some hi) rfl hhh (by simp) hhok (by simp) h0 (by omega)
          have had : ad = ⟨b, 0, none⟩ := by rw [hA (.inr rfl)]; simp
          refine fin (.slice (some ⟨b, 0, none⟩) hh.toNat g.cap) ⟨some b, ob.e, ob.sz, hh.toNat, g.cap⟩ (b :: f') ?_ rfl rfl (by unfold View; exact ⟨⟨b, 0, none⟩, by simp, fun _ => by simp⟩)
            ⟨rfl, rfl, by simp; omega, fun r hr => hOB.len r (List.mem_of_mem_take hr), .inr (.inl ⟨b, cells, f', rfl, rfl, e3, e4, by simp; omega, e6, ?_⟩)⟩ (hnd.sublist (List.Sublist.cons_cons b hf2)) (fun z hz => by rw [e2]; exact (List.Sublist.cons_cons b hf2).subset hz)
          · simp only [execOp, ho, hy, Instr.sliceAt, Instr.slice, Option.map_none, Sem.run_bind, run_underlying hs1, Result.andThen_ok, run_sizeOf hs2, Sem.run_pure, Nat.sub_zero]
            simp only [Option.map_none] at hbd
            rw [hbd]
            simp only [Result.andThen_ok, run_sizeOf hs2, Sem.run_pure, Sem.run_bind, had]
            by_cases hc : g.cap = 0 <;> simp [hc, add_lit]
          · exact RR.keep (fun _ _ => rfl) (fun _ h => h) ((GLe.kill id).trans (GLe.more _)) _ _ _ _ rfl (fun _ _ => rfl) hf1
      · exact h.elim
    · exact h.elim
  · exact h.elim
end
end Go.Proofs.YtcpefnjofekibaaDoor
