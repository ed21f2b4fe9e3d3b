/- Part B of the engine: the state (temporaries and objects) and how it stands to the machine's; what a call does (HCalls) and what code does (HW). -/
import Derived.Test.YtcpefnjofekibaaDoorHiA
import Derived.RangeFuncLeaves
import Derived.RangeFuncNested
import Derived.RangeFuncCalls
namespace Go.Proofs.YtcpefnjofekibaaDoor
open Go.RowKit
set_option linter.unusedVariables false

/-- Objects as they lie in the world: each with its blocks (FP); no block belongs to two. -/
structure OB (Z : Nat → Prop) (G : List (Option OG)) (w : World) (o : HObj) (g : OG) (fp : List Nat) : Prop where
  e : g.e = o.e
  sz : g.sz = o.sz
  n : g.n = o.rows.length
  len : ∀ r ∈ o.rows, r.length = o.sz
  at_ : (g.blk = none ∧ o.rows = [] ∧ fp = []) ∨
    (∃ b cells f, g.blk = some b ∧ fp = b :: f ∧ w.heap[b]? = some (.cells cells o.e (0, 0)) ∧ cells.size = g.cap * o.sz ∧ o.rows.length ≤ g.cap ∧ g.cap ≤ maxLen ∧ RR Z G w o.rows b 0 f) ∨
    ∃ x hs obj f, g.blk = none ∧ o.rows = [.ob x :: hs] ∧ fp = g.cap :: f ∧ w.heap[g.cap]? = some obj ∧ obSkel obj = x ∧ RL Z G w hs (obVals obj) f

/-- The package variables lie where nobody writes. -/
structure Globs (Z : Nat → Prop) (w : World) : Prop where
  int : ∀ b, globB b = true → Z b ∧ ∃ m, w.cell? ⟨b, 0, none⟩ = some (.int .i64 m)
  ifc : ∀ b, globI b = true → Z b ∧ ∃ v, w.cell? ⟨b, 0, none⟩ = some v ∧ (v = .nilIface ∨ ∃ t p, v = .iface t p)

theorem Globs.keep {Z Z' : Nat → Prop} {w w' : World} (h : Globs Z w) (hz : ∀ b, Z b → Z' b) (hk : ∀ b, Z b → w'.heap[b]? = w.heap[b]?) : Globs Z' w' := by
  refine ⟨fun b hb => ?_, fun b hb => ?_⟩
  · obtain ⟨h1, m, h2⟩ := h.int b hb
    exact ⟨hz b h1, m, by rw [World.cell?_of_block (w := w) (a := ⟨b, 0, none⟩) (hk b h1)]; exact h2⟩
  · obtain ⟨h1, v, h2, h3⟩ := h.ifc b hb
    exact ⟨hz b h1, v, by rw [World.cell?_of_block (w := w) (a := ⟨b, 0, none⟩) (hk b h1)]; exact h2, h3⟩

structure HInv (Z : Nat → Prop) (G : List (Option OG)) (FP : Nat → List Nat) (H : Heap) (w : World) : Prop where
  len : G.length = H.length
  dead : ∀ id : Nat, H[id]? = some none → G[id]? = some none
  nofp : ∀ id : Nat, (∀ o, H[id]? ≠ some (some o)) → FP id = []
  live : ∀ (id : Nat) o, H[id]? = some (some o) → ∃ g, G[id]? = some (some g) ∧ OB Z G w o g (FP id)
  nodup : ∀ id, (FP id).Nodup
  disj : ∀ i j b, b ∈ FP i → b ∈ FP j → i = j
  zlt : ∀ b, Z b → b < w.heap.size
  flt : ∀ id b, b ∈ FP id → b < w.heap.size
  zfp : ∀ id b, b ∈ FP id → ¬ Z b
  glob : Globs Z w

/-- How one state of memory comes of another: what is nobody's own is as it was; what is newly owned, or newly shut, was own before, or is new. -/
structure Evo (Z : Nat → Prop) (FP : Nat → List Nat) (w : World) (Z' : Nat → Prop) (FP' : Nat → List Nat) (w' : World) : Prop where
  os : w'.os = w.os
  tape : w'.tape = w.tape
  output : w'.output = w.output
  size : w.heap.size ≤ w'.heap.size
  keep : ∀ b, b < w.heap.size → (∀ id, b ∉ FP id) → w'.heap[b]? = w.heap[b]?
  zle : ∀ b, Z b → Z' b
  znew : ∀ b, Z' b → Z b ∨ w.heap.size ≤ b ∨ ∃ id, b ∈ FP id
  fnew : ∀ id b, b ∈ FP' id → w.heap.size ≤ b ∨ ∃ id', b ∈ FP id'

theorem Evo.refl (Z : Nat → Prop) (FP : Nat → List Nat) (w : World) : Evo Z FP w Z FP w :=
  ⟨rfl, rfl, rfl, Nat.le_refl _, fun _ _ _ => rfl, fun _ h => h, fun _ h => .inl h, fun id _ h => .inr ⟨id, h⟩⟩

theorem Evo.trans {Z Z' Z'' : Nat → Prop} {FP FP' FP'' : Nat → List Nat} {w w' w'' : World} (h : Evo Z FP w Z' FP' w') (k : Evo Z' FP' w' Z'' FP'' w'') : Evo Z FP w Z'' FP'' w'' := by
  refine ⟨k.os.trans h.os, k.tape.trans h.tape, k.output.trans h.output, Nat.le_trans h.size k.size, fun b hb hf => ?_, fun b hz => k.zle b (h.zle b hz), fun b hz => ?_, fun id b hb => ?_⟩
  · refine (k.keep b (Nat.lt_of_lt_of_le hb h.size) fun id hid => ?_).trans (h.keep b hb hf)
    rcases h.fnew id b hid with h1 | ⟨id', h1⟩
    · omega
    · exact hf id' h1
  · rcases k.znew b hz with h1 | h1 | ⟨id, h1⟩
    · exact h.znew b h1
    · exact .inr (.inl (Nat.le_trans h.size h1))
    · exact .inr (h.fnew id b h1)
  · rcases k.fnew id b hb with h1 | ⟨id', h1⟩
    · exact .inl (Nat.le_trans h.size h1)
    · exact h.fnew id' b h1

section
variable {Z Z' : Nat → Prop} {G G' : List (Option OG)} {FP FP' : Nat → List Nat} {H H' : Heap} {w w' : World}

theorem RV.nil_keep (hZ : ∀ b, Z b → w'.heap[b]? = w.heap[b]?) (hZZ : ∀ b, Z b → Z' b) (hG : GLe G G') {h : HV} {y : Value} (hr : RV Z G w h y []) : RV Z' G' w' h y [] :=
  RV.keep hZ hZZ hG h y [] (by simp) hr

theorem OB.keep {o : HObj} {g : OG} {fp : List Nat} (hZ : ∀ b, Z b → w'.heap[b]? = w.heap[b]?) (hZZ : ∀ b, Z b → Z' b) (hG : GLe G G') (hf : ∀ b ∈ fp, w'.heap[b]? = w.heap[b]?) (h : OB Z G w o g fp) : OB Z' G' w' o g fp := by
  refine ⟨h.e, h.sz, h.n, h.len, h.at_.imp id ?_⟩
  rintro (⟨b, cells, f, h1, h2, h3, h4, h5, h6, h7⟩ | ⟨x, hs, obj, f, h1, h2, h3, h4, h5, h6⟩)
  · subst h2
    exact .inl ⟨b, cells, f, h1, rfl, (hf b (by simp)).trans h3, h4, h5, h6, RR.keep hZ hZZ hG _ b 0 f (hf b (by simp)) (fun x hx => hf x (by simp [hx])) h7⟩
  · subst h3
    exact .inr ⟨x, hs, obj, f, h1, h2, rfl, (hf _ (by simp)).trans h4, h5, RL.keep hZ hZZ hG _ _ f (fun x hx => hf x (by simp [hx])) h6⟩

/-- The world goes on, and neither what is shut nor what is owned is touched. -/
theorem HInv.keep (h : HInv Z G FP H w) (hsz : w.heap.size ≤ w'.heap.size) (hk : ∀ b, (Z b ∨ ∃ id, b ∈ FP id) → w'.heap[b]? = w.heap[b]?) : HInv Z G FP H w' := by
  refine ⟨h.len, h.dead, h.nofp, fun id o ho => ?_, h.nodup, h.disj, fun b hb => Nat.lt_of_lt_of_le (h.zlt b hb) hsz, fun id b hb => Nat.lt_of_lt_of_le (h.flt id b hb) hsz, h.zfp, h.glob.keep (fun _ h => h) (fun b hb => hk b (.inl hb))⟩
  obtain ⟨g, hg, hob⟩ := h.live id o ho
  exact ⟨g, hg, hob.keep (fun b hb => hk b (.inl hb)) (fun _ h => h) (GLe.refl _) (fun b hb => hk b (.inr ⟨id, hb⟩))⟩
end

/-- The machine's temporaries that are marks of loops over functions. -/
def marks (ds : List Nat) : List Deferred := ds.map fun d => { target := .collected d, args := #[] }

/-- How temporaries T and objects H stand to the machine's. B: the heap's size when the call began. -/
structure St (N B : Nat) (Z : Nat → Prop) (G : List (Option OG)) (FP : Nat → List Nat) (ds : List Nat) (T : Nat → HV) (H : Heap) (a : Act) (w : World) : Prop where
  inv : HInv Z G FP H w
  size : a.tmps.size = N
  tmps : ∀ i, i < N → RV Z G w (T i) (a.tmps.getD i undef) []
  defers : a.defers = marks ds
  dsn : ds.Nodup
  dsat : ∀ d ∈ ds, B ≤ d ∧ w.heap[d]? = some (.deferred (some [])) ∧ ¬ Z d ∧ ∀ id, d ∉ FP id

def upd (T : Nat → HV) (i : Nat) (h : HV) : Nat → HV := fun j => if j = i then h else T j
def updO (T : Nat → HV) (d : Option Nat) (h : HV) : Nat → HV := match d with | some i => upd T i h | none => T

/-- A constant, cell by cell. -/
def cHV : Value → HV
  | .agg cs => .ag (cs.toList.map .v)
  | x => .v x

def hev (T : Nat → HV) : Operand → HV
  | .tmp t => T t
  | .const x => cHV x
  | .global _ => .any
  | .func f => .fn f []

/-- What a call comes to. -/
def Post (Z : Nat → Prop) (G : List (Option OG)) (FP : Nat → List Nat) (H : Heap) (w : World) (Q : HV → Heap → Prop) : Ending → World → Prop :=
  fun e w' => ∃ v r H' Z' G' FP' fr, e = .returned v ∧ Q r H' ∧ H'.length = H.length ∧ HInv Z' G' FP' H' w' ∧ RV Z' G' w' r v fr ∧ fr.Nodup ∧
    (∀ b ∈ fr, ¬ Z' b ∧ b < w'.heap.size ∧ ∀ id, b ∉ FP' id) ∧ (∀ b ∈ fr, w.heap.size ≤ b ∨ ∃ id, b ∈ FP id) ∧ GLe G G' ∧ Evo Z FP w Z' FP' w'

/-- A call of function f, at objects H and arguments: it returns, and Q holds of the result and of the objects behind it. -/
def HCalls (P : Program) (f : FuncId) (H : Heap) (args : List HV) (Q : HV → Heap → Prop) : Prop :=
  (∀ vals w, (callFunc f vals).run P w = .ok (.enter f vals) w) ∧ ∀ Z G FP w vals, HInv Z G FP H w → RL Z G w args vals [] → Calls P f vals.toArray w (Post Z G FP H w Q)

theorem HCalls.mono {P : Program} {f : FuncId} {H : Heap} {args : List HV} {Q Q' : HV → Heap → Prop} (h : HCalls P f H args Q) (hq : ∀ r H', Q r H' → Q' r H') : HCalls P f H args Q' := by
  refine ⟨h.1, fun Z G FP w vals hi ha => ?_⟩
  refine Calls.mono (h.2 Z G FP w vals hi ha) ?_
  rintro e w' ⟨v, r, H', Z', G', FP', fr, he, hQ, rest⟩
  exact ⟨v, r, H', Z', G', FP', fr, he, hq r H' hQ, rest⟩

abbrev Wd (ro : Option Nat) : Fence := { Fence.wide with round := ro }

/-- The same of the first L objects alone: those that came in. -/
structure GLt (L : Nat) (G G' : List (Option OG)) : Prop where
  len : L ≤ G'.length
  at_ : ∀ id : Nat, id < L → G'[id]? = some none ∨ G'[id]? = G[id]? ∨ ∃ g g', G[id]? = some (some g) ∧ G'[id]? = some (some g') ∧ g.n < g'.n

theorem GLt.refl {L : Nat} {G : List (Option OG)} (h : L ≤ G.length) : GLt L G G := ⟨h, fun _ _ => .inr (.inl rfl)⟩
theorem GLt.of {L : Nat} {G G' : List (Option OG)} (hL : L ≤ G.length) (h : GLe G G') : GLt L G G' := ⟨Nat.le_trans hL h.len, fun id hid => h.at_ id (Nat.lt_of_lt_of_le hid hL)⟩
theorem GLt.trans {L : Nat} {G G' G'' : List (Option OG)} (h : GLt L G G') (k : GLt L G' G'') : GLt L G G'' := by
  refine ⟨k.len, fun id hid => ?_⟩
  rcases k.at_ id hid with k1 | k1 | ⟨g, g', k1, k2, k3⟩
  · exact .inl k1
  · rw [k1]; exact h.at_ id hid
  · rcases h.at_ id hid with h1 | h1 | ⟨g0, g1, h1, h2, h3⟩
    · rw [k1] at h1; cases h1
    · exact .inr (.inr ⟨g, g', h1 ▸ k1, k2, k3⟩)
    · rw [k1] at h2; cases h2; exact .inr (.inr ⟨g0, g', h1, k2, by omega⟩)

/-- Where code stands: the heap is no smaller than at the call's beginning; in a round the loop's record lies, and is nobody's own. -/
def Bo (ro : Option Nat) (B : Nat) (FP : Nat → List Nat) (w : World) : Prop := B ≤ w.heap.size ∧ ∀ l, ro = some l → ∃ r, w.heap[l]? = some (.loop r) ∧ ∀ id, l ∉ FP id

theorem Bo.evo {ro : Option Nat} {B : Nat} {Z Z' : Nat → Prop} {FP FP' : Nat → List Nat} {w w' : World} (h : Bo ro B FP w) (hE : Evo Z FP w Z' FP' w') : Bo ro B FP' w' := by
  refine ⟨Nat.le_trans h.1 hE.size, fun l hl => ?_⟩
  obtain ⟨r, h1, h2⟩ := h.2 l hl
  have hlt : l < w.heap.size := (Array.getElem?_eq_some_iff.1 h1).1
  refine ⟨r, (hE.keep l hlt h2).trans h1, fun id hc => ?_⟩
  rcases hE.fnew id l hc with k | ⟨id', k⟩
  · omega
  · exact h2 id' k

/-- What code does: from T and H on it leaves by e, and Q holds. -/
def HW (P : Program) (N L : Nat) (c : Code) (Q : Exit → (Nat → HV) → Heap → Prop) (T : Nat → HV) (H : Heap) : Prop :=
  ∀ ro n B Z G FP ds a w, Bo ro B FP w → L ≤ G.length → St N B Z G FP ds T H a w → c.wpIn (Wd ro) n P (fun e a' w' => ∃ T' H' Z' G' FP' ds', Q e T' H' ∧ St N B Z' G' FP' ds' T' H' a' w' ∧ GLt L G G' ∧ Evo Z FP w Z' FP' w') a w

/-- Nothing but the ordinary ends. -/
def fin (Qn : (Nat → HV) → Heap → Prop) (Q : Exit → (Nat → HV) → Heap → Prop) : Exit → (Nat → HV) → Heap → Prop
  | .normal => Qn
  | e => Q e

section rules
variable {P : Program} {N L : Nat} {Q : Exit → (Nat → HV) → Heap → Prop} {T : Nat → HV} {H : Heap}

theorem HW.mono {c : Code} {Q' : Exit → (Nat → HV) → Heap → Prop} (h : HW P N L c Q T H) (hq : ∀ e T H, Q e T H → Q' e T H) : HW P N L c Q' T H := by
  intro ro n B Z G FP ds a w hB hL hs
  refine wpIn_mono (h ro n B Z G FP ds a w hB hL hs) ?_
  rintro e a' w' ⟨T', H', Z', G', FP', ds', h1, h2⟩
  exact ⟨T', H', Z', G', FP', ds', hq _ _ _ h1, h2⟩

theorem HW.skip (h : Q .normal T H) : HW P N L .skip Q T H :=
  fun ro n B Z G FP ds a w _ hL hs => wpIn_skip ⟨T, H, Z, G, FP, ds, h, hs, GLt.refl hL, Evo.refl _ _ _⟩
theorem HW.label {l : Nat} (h : Q .normal T H) : HW P N L (.label l) Q T H :=
  fun ro n B Z G FP ds a w _ hL hs => wpIn_label ⟨T, H, Z, G, FP, ds, h, hs, GLt.refl hL, Evo.refl _ _ _⟩
theorem HW.exit {l : Nat} (h : Q (.exit l) T H) : HW P N L (.exit l) Q T H :=
  fun ro n B Z G FP ds a w _ hL hs => wpIn_exit ⟨T, H, Z, G, FP, ds, h, hs, GLt.refl hL, Evo.refl _ _ _⟩
theorem HW.goto {l : Nat} (h : Q (.goto l) T H) : HW P N L (.goto l) Q T H :=
  fun ro n B Z G FP ds a w _ hL hs => wpIn_goto ⟨T, H, Z, G, FP, ds, h, hs, GLt.refl hL, Evo.refl _ _ _⟩
theorem HW.ret (h : Q .ret T H) : HW P N L .ret Q T H :=
  fun ro n B Z G FP ds a w _ hL hs => wpIn_ret ⟨T, H, Z, G, FP, ds, h, hs, GLt.refl hL, Evo.refl _ _ _⟩

theorem HW.seq {x y : Code} (h : HW P N L x (fin (HW P N L y Q) Q) T H) : HW P N L (.seq x y) Q T H := by
  intro ro n B Z G FP ds a w hB hL hs
  refine wpIn_seq (wpIn_mono (h ro n B Z G FP ds a w hB hL hs) ?_)
  rintro e a' w' ⟨T', H', Z', G', FP', ds', h1, h2, h3, h4⟩
  cases e with
  | normal =>
    refine wpIn_mono (h1 ro n B Z' G' FP' ds' a' w' (hB.evo h4) h3.len h2) ?_
    rintro e a'' w'' ⟨T'', H'', Z'', G'', FP'', ds'', k1, k2, k3, k4⟩
    exact ⟨T'', H'', Z'', G'', FP'', ds'', k1, k2, h3.trans k3, h4.trans k4⟩
  | exit id => exact ⟨T', H', Z', G', FP', ds', h1, h2, h3, h4⟩
  | goto l => exact ⟨T', H', Z', G', FP', ds', h1, h2, h3, h4⟩
  | ret => exact ⟨T', H', Z', G', FP', ds', h1, h2, h3, h4⟩
  | panic ch => exact ⟨T', H', Z', G', FP', ds', h1, h2, h3, h4⟩
  | outgrown => exact ⟨T', H', Z', G', FP', ds', h1, h2, h3, h4⟩

/-- A block, left by its own number. -/
def inB (l : Nat) (Q : Exit → (Nat → HV) → Heap → Prop) : Exit → (Nat → HV) → Heap → Prop
  | .exit l', T, H => if l' = l then Q .normal T H else Q (.exit l') T H
  | e, T, H => Q e T H

theorem HW.block {l : Nat} {c : Code} (h : HW P N L c (inB l Q) T H) : HW P N L (.block l c) Q T H := by
  intro ro n B Z G FP ds a w hB hL hs
  refine wpIn_block (wpIn_mono (h ro n B Z G FP ds a w hB hL hs) ?_)
  rintro e a' w' ⟨T', H', Z', G', FP', ds', h1, h2, h3, h4⟩
  cases e with
  | normal => exact ⟨T', H', Z', G', FP', ds', h1, h2, h3, h4⟩
  | exit id =>
    simp only [inB] at h1
    simp only [Exit.inBlock]
    split at h1
    · rename_i hid; rw [if_pos hid]; exact ⟨T', H', Z', G', FP', ds', h1, h2, h3, h4⟩
    · rename_i hid; rw [if_neg hid]; exact ⟨T', H', Z', G', FP', ds', h1, h2, h3, h4⟩
  | goto l => exact ⟨T', H', Z', G', FP', ds', h1, h2, h3, h4⟩
  | ret => exact ⟨T', H', Z', G', FP', ds', h1, h2, h3, h4⟩
  | panic ch => exact ⟨T', H', Z', G', FP', ds', h1, h2, h3, h4⟩
  | outgrown => exact ⟨T', H', Z', G', FP', ds', h1, h2, h3, h4⟩
end rules

section eval
variable {N B : Nat} {Z : Nat → Prop} {G : List (Option OG)} {FP : Nat → List Nat} {ds : List Nat} {T : Nat → HV} {H : Heap} {a : Act} {w : World}

theorem RL_vs (Z : Nat → Prop) (G : List (Option OG)) (w : World) : ∀ xs : List Value, RL Z G w (xs.map HV.v) xs []
  | [] => by simp [RL]
  | x :: xs => by
    simp only [List.map_cons, RL]
    exact ⟨x, xs, [], [], rfl, rfl, by simp [RV], RL_vs Z G w xs⟩

theorem RV_cHV (x : Value) : RV Z G w (cHV x) x [] := by
  unfold cHV
  split
  · simp only [RV]; exact ⟨_, rfl, RL_vs Z G w _⟩
  · simp [RV]

/-- An operand that is a temporary must be one that there is. -/
def opdOk (N : Nat) : Operand → Bool
  | .tmp t => decide (t < N)
  | _ => true

theorem St.hev (h : St N B Z G FP ds T H a w) (x : Operand) (hx : opdOk N x = true) : RV Z G w (hev T x) (a.eval x) [] := by
  cases x with
  | tmp t => exact h.tmps t (of_decide_eq_true hx)
  | const v => exact RV_cHV v
  | global g => simp [Go.Proofs.YtcpefnjofekibaaDoor.hev, RV]
  | func f => simp [Go.Proofs.YtcpefnjofekibaaDoor.hev, RV, Act.eval, RL]

theorem St.cond {c : Operand} {t : Bool} (h : St N B Z G FP ds T H a w) (hx : opdOk N c = true) (hc : Go.Proofs.YtcpefnjofekibaaDoor.hev T c = .v (.bool t)) : a.eval c = .bool t := by
  have := h.hev c hx
  rw [hc] at this
  simpa [RV] using this

/-- A value is put where the operation wants it. -/
theorem St.put (h : St N B Z G FP ds T H a w) {x : HV} {y : Value} (hv : RV Z G w x y []) (d : Option Nat) (hd : ∀ i, d = some i → i < N) : St N B Z G FP ds (updO T d x) H (a.put d y) w := by
  cases d with
  | none => exact h
  | some i =>
    have hi := hd i rfl
    refine ⟨h.inv, by simp [Act.put, h.size], fun j hj => ?_, h.defers, h.dsn, h.dsat⟩
    simp only [updO, upd, Act.put]
    by_cases e : j = i
    · subst e
      rw [if_pos rfl]
      simpa [Array.getD_eq_getD_getElem?, h.size, hj] using hv
    · rw [if_neg e]
      have := h.tmps j hj
      simpa [Array.getD_eq_getD_getElem?, Array.getElem?_setIfInBounds_ne (Ne.symm e)] using this
end eval

section rules2
variable {P : Program} {N L : Nat} {Q : Exit → (Nat → HV) → Heap → Prop} {T : Nat → HV} {H : Heap}

theorem HW.cond {c : Operand} {x y : Code} {t : Bool} (hx : opdOk N c = true) (hc : hev T c = .v (.bool t)) (h1 : t = true → HW P N L x Q T H) (h2 : t = false → HW P N L y Q T H) : HW P N L (.cond c x y) Q T H := by
  intro ro n B Z G FP ds a w hB hL hs
  have he := hs.cond hx hc
  cases t with
  | true => exact wpIn_cond he (h1 rfl ro n B Z G FP ds a w hB hL hs)
  | false => exact wpIn_cond he (h2 rfl ro n B Z G FP ds a w hB hL hs)

theorem exists_least {p : Nat → Prop} (h : ∃ k, p k) : ∃ k, p k ∧ ∀ j, p j → k ≤ j := by
  obtain ⟨k, hk⟩ := h
  induction k using Nat.strongRecOn with
  | _ k ih =>
    by_cases e : ∃ j, j < k ∧ p j
    · obtain ⟨j, hj, hp⟩ := e
      exact ih j hj hp
    · refine ⟨k, hk, fun j hj => ?_⟩
      rcases Nat.lt_or_ge j k with h1 | h1
      · exact absurd ⟨j, h1, hj⟩ e
      · exact h1

/-- A loop: I k: k bounds the rounds still to come. -/
theorem HW.loop {c : Code} (I : Nat → (Nat → HV) → Heap → Prop) (k0 : Nat) (h0 : I k0 T H)
    (round : ∀ k T H, I k T H → HW P N L c (fin (fun T' H' => ∃ k', k' < k ∧ I k' T' H') Q) T H) : HW P N L (.loop c) Q T H := by
  intro ro n B Z G FP ds a w hB hL hs
  classical
  let J : Nat → Act → World → Prop := fun k a' w' => ∃ T' H' Z' G' FP' ds', I k T' H' ∧ St N B Z' G' FP' ds' T' H' a' w' ∧ GLt L G G' ∧ Evo Z FP w Z' FP' w'
  let μ : Act → World → Nat := fun a' w' => if h : ∃ k, J k a' w' then Classical.choose (exists_least h) else 0
  refine wpIn_loop (fun a' w' => ∃ k, J k a' w') μ ⟨k0, T, H, Z, G, FP, ds, h0, hs, GLt.refl hL, Evo.refl _ _ _⟩ ?_
  intro a1 w1 hJ
  have hμ : μ a1 w1 = Classical.choose (exists_least hJ) := by simp only [μ]; rw [dif_pos hJ]
  obtain ⟨T1, H1, Z1, G1, FP1, ds1, hI, hs1, hG1, hE1⟩ := (Classical.choose_spec (exists_least hJ)).1
  refine wpIn_mono (round _ T1 H1 hI ro n B Z1 G1 FP1 ds1 a1 w1 (hB.evo hE1) hG1.len hs1) ?_
  rintro e a' w' ⟨T', H', Z', G', FP', ds', h1, h2, h3, h4⟩
  cases e with
  | normal =>
    obtain ⟨k', hk', hI'⟩ := h1
    have hJ' : J k' a' w' := ⟨T', H', Z', G', FP', ds', hI', h2, hG1.trans h3, hE1.trans h4⟩
    refine ⟨⟨k', hJ'⟩, ?_⟩
    rw [hμ]
    have e : ∃ k, J k a' w' := ⟨k', hJ'⟩
    have : μ a' w' = Classical.choose (exists_least e) := by simp only [μ]; rw [dif_pos e]
    rw [this]
    exact Nat.lt_of_le_of_lt ((Classical.choose_spec (exists_least e)).2 _ hJ') hk'
  | exit id => exact ⟨T', H', Z', G', FP', ds', h1, h2, hG1.trans h3, hE1.trans h4⟩
  | goto l => exact ⟨T', H', Z', G', FP', ds', h1, h2, hG1.trans h3, hE1.trans h4⟩
  | ret => exact ⟨T', H', Z', G', FP', ds', h1, h2, hG1.trans h3, hE1.trans h4⟩
  | panic ch => exact ⟨T', H', Z', G', FP', ds', h1, h2, hG1.trans h3, hE1.trans h4⟩
  | outgrown => exact ⟨T', H', Z', G', FP', ds', h1, h2, hG1.trans h3, hE1.trans h4⟩
end rules2
end Go.Proofs.YtcpefnjofekibaaDoor
