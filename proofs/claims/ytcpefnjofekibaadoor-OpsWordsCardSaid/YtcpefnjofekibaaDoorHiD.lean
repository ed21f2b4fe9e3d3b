/- Part D of the engine: an object turned, an object laid; one operation (HR), a region's operations. -/
import Derived.Test.YtcpefnjofekibaaDoorHiC
namespace Go.Proofs.YtcpefnjofekibaaDoor
open Go.RowKit
set_option linter.unusedVariables false
set_option linter.unusedSimpArgs false

section turn
variable {Z Z' : Nat → Prop} {G G' : List (Option OG)} {FP FP' : Nat → List Nat} {H H' : Heap} {w w' : World} {N B : Nat} {ds : List Nat} {T : Nat → HV} {a : Act}

theorem GLe.set {id : Nat} {g g' : OG} (hg : G[id]? = some (some g)) (h : g' = g ∨ g.n < g'.n) : GLe G (G.set id (some g')) := by
  refine ⟨by simp, fun j hj => ?_⟩
  by_cases e : id = j
  · subst e
    rcases h with rfl | h
    · exact .inr (.inl (by rw [List.getElem?_set_self hj, hg]))
    · exact .inr (.inr ⟨g, g', hg, by simp [hj], h⟩)
  · exact .inr (.inl (by simp [List.getElem?_set, e]))

theorem GLe.kill (id : Nat) : GLe G (G.set id none) := by
  refine ⟨by simp, fun j hj => ?_⟩
  by_cases e : id = j
  · subst e; exact .inl (by simp [hj])
  · exact .inr (.inl (by simp [List.getElem?_set, e]))

theorem GLe.more (l : List (Option OG)) : GLe G (G ++ l) :=
  ⟨by simp, fun j hj => .inr (.inl (by rw [List.getElem?_append_left hj]))⟩

theorem HInv.lt (h : HInv Z G FP H w) {id : Nat} {o : HObj} (ho : H[id]? = some (some o)) : id < G.length := by
  rw [h.len]; exact (List.getElem?_eq_some_iff.1 ho).1

/-- One object is turned. -/
theorem HInv.turn (h : HInv Z G FP H w) {id : Nat} {o o' : HObj} {g g' : OG} {fp' : List Nat} (ho : H[id]? = some (some o)) (hg : G[id]? = some (some g)) (hgg : g' = g ∨ g.n < g'.n)
    (hsz : w.heap.size ≤ w'.heap.size) (hk : ∀ b, b < w.heap.size → b ∉ FP id → w'.heap[b]? = w.heap[b]?) (hob : OB Z (G.set id (some g')) w' o' g' fp') (hnd : fp'.Nodup)
    (hfp : ∀ b ∈ fp', ¬ Z b ∧ b < w'.heap.size ∧ ∀ j, j ≠ id → b ∉ FP j) :
    HInv Z (G.set id (some g')) (fun j => if j = id then fp' else FP j) (H.set id (some o')) w' := by
  have hlt := h.lt ho
  have hltH : id < H.length := h.len ▸ hlt
  refine ⟨by simp [h.len], fun j hj => ?_, fun j hj => ?_, fun j oj hj => ?_, fun j => ?_, fun i j b hi hj => ?_, fun b hb => Nat.lt_of_lt_of_le (h.zlt b hb) hsz, fun j b hb => ?_, fun j b hb => ?_, h.glob.keep (fun _ h => h) (fun b hb => hk b (h.zlt b hb) (fun hc => h.zfp id b hc hb))⟩
  · by_cases e : id = j
    · subst e; simp [hltH] at hj
    · rw [List.getElem?_set_ne e] at hj ⊢; exact h.dead j hj
  · by_cases e : j = id
    · subst e; exact absurd (by simp [hltH]) (hj o')
    · simp only [if_neg e]; exact h.nofp j (fun x => by have := hj x; rwa [List.getElem?_set_ne (Ne.symm e)] at this)
  · by_cases e : j = id
    · subst e
      simp [hltH] at hj
      subst hj
      exact ⟨g', by simp [hlt], by simpa using hob⟩
    · rw [List.getElem?_set_ne (Ne.symm e)] at hj ⊢
      obtain ⟨gj, hgj, hoj⟩ := h.live j oj hj
      refine ⟨gj, hgj, ?_⟩
      simp only [if_neg e]
      exact hoj.keep (fun b hb => hk b (h.zlt b hb) (fun hc => h.zfp id b hc hb)) (fun _ h => h) (GLe.set hg hgg) (fun b hb => hk b (h.flt j b hb) (fun hc => e (h.disj j id b hb hc)))
  · by_cases e : j = id
    · simp only [if_pos e]; exact hnd
    · simp only [if_neg e]; exact h.nodup j
  · by_cases e1 : i = id <;> by_cases e2 : j = id
    · rw [e1, e2]
    · simp only [if_pos e1] at hi; simp only [if_neg e2] at hj; exact absurd hj ((hfp b hi).2.2 j e2)
    · simp only [if_neg e1] at hi; simp only [if_pos e2] at hj; exact absurd hi ((hfp b hj).2.2 i e1)
    · simp only [if_neg e1] at hi; simp only [if_neg e2] at hj; exact h.disj i j b hi hj
  · by_cases e : j = id
    · simp only [if_pos e] at hb; exact (hfp b hb).2.1
    · simp only [if_neg e] at hb; exact Nat.lt_of_lt_of_le (h.flt j b hb) hsz
  · by_cases e : j = id
    · simp only [if_pos e] at hb; exact (hfp b hb).1
    · simp only [if_neg e] at hb; exact h.zfp j b hb

theorem evo_turn {id : Nat} {fp' : List Nat} (ho : w'.os = w.os) (ht : w'.tape = w.tape) (hout : w'.output = w.output) (hsz : w.heap.size ≤ w'.heap.size) (hk : ∀ b, b < w.heap.size → b ∉ FP id → w'.heap[b]? = w.heap[b]?)
    (hfp : ∀ b ∈ fp', w.heap.size ≤ b ∨ ∃ j, b ∈ FP j) : Evo Z FP w Z (fun j => if j = id then fp' else FP j) w' := by
  refine ⟨ho, ht, hout, hsz, fun b hb hf => hk b hb (hf id), fun _ h => h, fun _ h => .inl h, fun j b hb => ?_⟩
  by_cases e : j = id
  · simp only [if_pos e] at hb; exact hfp b hb
  · simp only [if_neg e] at hb; exact .inr ⟨j, hb⟩

/-- An object is laid behind the others. -/
theorem HInv.new (h : HInv Z G FP H w) {o : HObj} {g : OG} {fp : List Nat} (hsz : w.heap.size ≤ w'.heap.size) (hk : ∀ b, b < w.heap.size → w'.heap[b]? = w.heap[b]?)
    (hob : OB Z (G ++ [some g]) w' o g fp) (hnd : fp.Nodup) (hfp : ∀ b ∈ fp, ¬ Z b ∧ b < w'.heap.size ∧ ∀ j, b ∉ FP j) :
    HInv Z (G ++ [some g]) (fun j => if j = H.length then fp else FP j) (H ++ [some o]) w' := by
  have hself : FP H.length = [] := h.nofp _ (by simp)
  refine ⟨by simp [h.len], fun j hj => ?_, fun j hj => ?_, fun j oj hj => ?_, fun j => ?_, fun i j b hi hj => ?_, fun b hb => Nat.lt_of_lt_of_le (h.zlt b hb) hsz, fun j b hb => ?_, fun j b hb => ?_, h.glob.keep (fun _ h => h) (fun b hb => hk b (h.zlt b hb))⟩
  · rw [List.getElem?_append] at hj
    split at hj
    · rename_i hlt; rw [List.getElem?_append_left (by rw [h.len]; exact hlt)]; exact h.dead j hj
    · rename_i hlt
      cases hc : j - H.length with
      | zero => rw [hc] at hj; simp at hj
      | succ m => rw [hc] at hj; simp at hj
  · by_cases e : j = H.length
    · subst e; exact absurd (by simp) (hj o)
    · simp only [if_neg e]
      refine h.nofp j (fun x hx => hj x ?_)
      rw [List.getElem?_append_left (List.getElem?_eq_some_iff.1 hx).1]; exact hx
  · rw [List.getElem?_append] at hj
    split at hj
    · rename_i hlt
      have e : j ≠ H.length := by omega
      obtain ⟨gj, hgj, hoj⟩ := h.live j oj hj
      refine ⟨gj, by rw [List.getElem?_append_left (by rw [h.len]; exact hlt)]; exact hgj, ?_⟩
      simp only [if_neg e]
      exact hoj.keep (fun b hb => hk b (h.zlt b hb)) (fun _ h => h) (GLe.more _) (fun b hb => hk b (h.flt j b hb))
    · rename_i hlt
      cases hc : j - H.length with
      | zero =>
        rw [hc] at hj; simp at hj; subst hj
        have e : j = H.length := by omega
        subst e
        exact ⟨g, by rw [← h.len]; simp, by simpa using hob⟩
      | succ m => rw [hc] at hj; simp at hj
  · by_cases e : j = H.length
    · simp only [if_pos e]; exact hnd
    · simp only [if_neg e]; exact h.nodup j
  · by_cases e1 : i = H.length <;> by_cases e2 : j = H.length
    · rw [e1, e2]
    · simp only [if_pos e1] at hi; simp only [if_neg e2] at hj; exact absurd hj ((hfp b hi).2.2 j)
    · simp only [if_neg e1] at hi; simp only [if_pos e2] at hj; exact absurd hi ((hfp b hj).2.2 i)
    · simp only [if_neg e1] at hi; simp only [if_neg e2] at hj; exact h.disj i j b hi hj
  · by_cases e : j = H.length
    · simp only [if_pos e] at hb; exact (hfp b hb).2.1
    · simp only [if_neg e] at hb; exact Nat.lt_of_lt_of_le (h.flt j b hb) hsz
  · by_cases e : j = H.length
    · simp only [if_pos e] at hb; exact (hfp b hb).1
    · simp only [if_neg e] at hb; exact h.zfp j b hb

theorem evo_new {id : Nat} {fp : List Nat} (hid : FP id = []) (ho : w'.os = w.os) (ht : w'.tape = w.tape) (hout : w'.output = w.output) (hsz : w.heap.size ≤ w'.heap.size) (hk : ∀ b, b < w.heap.size → w'.heap[b]? = w.heap[b]?)
    (hfp : ∀ b ∈ fp, w.heap.size ≤ b) : Evo Z FP w Z (fun j => if j = id then fp else FP j) w' :=
  evo_turn ho ht hout hsz (fun b hb _ => hk b hb) (fun b hb => .inl (hfp b hb))

theorem St.evo (h : St N B Z G FP ds T H a w) (hi : HInv Z' G' FP' H' w') (hG : GLe G G') (hE : Evo Z FP w Z' FP' w') : St N B Z' G' FP' ds T H' a w' := by
  have hZk : ∀ b, Z b → w'.heap[b]? = w.heap[b]? := fun b hb => hE.keep b (h.inv.zlt b hb) (fun id hc => h.inv.zfp id b hc hb)
  refine ⟨hi, h.size, fun i hi' => RV.nil_keep hZk hE.zle hG (h.tmps i hi'), h.defers, h.dsn, fun d hd => ?_⟩
  obtain ⟨h1, h2, h3, h4⟩ := h.dsat d hd
  have hlt : d < w.heap.size := (Array.getElem?_eq_some_iff.1 h2).1
  refine ⟨h1, (hE.keep d hlt h4).trans h2, fun hc => ?_, fun id hc => ?_⟩
  · rcases hE.znew d hc with k | k | ⟨id, k⟩
    · exact h3 k
    · omega
    · exact h4 id k
  · rcases hE.fnew id d hc with k | ⟨id', k⟩
    · omega
    · exact h4 id' k
end turn

/-- One operation is run: what it gives, and what becomes of the objects. -/
def HR (P : Program) (N : Nat) (o : Oper) (T : Nat → HV) (H : Heap) (K : HV → Heap → Prop) : Prop :=
  ∀ B Z G FP ds a w, St N B Z G FP ds T H a w → ∃ r v w' x H' Z' G' FP', (execOp a.eval o).run P w = .ok r w' ∧ (r = .value v ∨ (r = .skip ∧ v = undef)) ∧ K x H' ∧ RV Z' G' w' x v [] ∧
    HInv Z' G' FP' H' w' ∧ GLe G G' ∧ Evo Z FP w Z' FP' w'

/-- One operation, as the walk meets it. -/
def HO (P : Program) (N L : Nat) (o : Oper) (T : Nat → HV) (H : Heap) (K : (Nat → HV) → Heap → Prop) : Prop :=
  ∀ ro n B Z G FP ds a w, Bo ro B FP w → L ≤ G.length → St N B Z G FP ds T H a w → ∀ (next : Act → World → Prop) (Q : Exit → Act → World → Prop),
    (∀ a' w', (∃ T' H' Z' G' FP', K T' H' ∧ St N B Z' G' FP' ds T' H' a' w' ∧ GLt L G G' ∧ Evo Z FP w Z' FP' w') → next a' w') → o.wpIn (Wd ro) n P a w next Q

theorem semAt_plain (ro : Option Nat) (ρ : Operand → Value) (o : Oper) (h : ∀ c, o.op ≠ .defer c) : Oper.semAt ro ρ o = execOp ρ o := by
  cases ro with
  | none => exact Oper.semAt_none ρ o
  | some l => exact Oper.semAt_some l ρ o h

theorem HO_of_HR {P : Program} {N L : Nat} {o : Oper} {T : Nat → HV} {H : Heap} {K : (Nat → HV) → Heap → Prop} (hnd : ∀ c, o.op ≠ .defer c) (hd : ∀ i, o.dst = some i → i < N)
    (h : HR P N o T H (fun x H' => K (updO T o.dst x) H')) : HO P N L o T H K := by
  intro ro n B Z G FP ds a w hB hL hs next Q hn
  obtain ⟨r, v, w', x, H', Z', G', FP', hr, hv, hK, hx, hi, hG, hE⟩ := h B Z G FP ds a w hs
  refine ⟨fun _ _ => trivial, ?_⟩
  rw [semAt_plain _ _ _ hnd, hr]
  have hs' := (hs.evo hi hG hE).put hx o.dst hd
  rcases hv with rfl | ⟨rfl, rfl⟩
  · exact hn _ _ ⟨_, H', Z', G', FP', hK, hs', GLt.of hL hG, hE⟩
  · exact hn _ _ ⟨_, H', Z', G', FP', hK, hs', GLt.of hL hG, hE⟩

/-- The value of a guard's operation. -/
def gval (all : List Oper) (T : Nat → HV) (j : Nat) : HV :=
  match (all[j]?).bind (·.dst) with
  | some d => T d
  | none => .any

def dstOk (N : Nat) (o : Oper) : Bool := match o.dst with | some d => decide (d < N) | none => true
def operOk (N : Nat) (o : Oper) : Bool := dstOk N o && o.op.operands.all (opdOk N)
def noDefer : Oper → Bool := fun o => match o.op with | .defer _ => false | _ => true
def regOk (N : Nat) (ops : List Oper) : Bool := ops.all fun o => operOk N o && noDefer o

theorem wpList_hi {P : Program} {N L : Nat} {all : List Oper} {Q : Exit → Act → World → Prop} {n : Nat} {ro : Option Nat} {o : Oper} {rest : List Oper} {T : Nat → HV} {H : Heap} {B : Nat} {Z : Nat → Prop} {G : List (Option OG)} {FP : Nat → List Nat} {ds : List Nat} {a : Act} {w : World}
    (hg : o.guard = none) {K : (Nat → HV) → Heap → Prop} (h : HO P N L o T H K) (hB : Bo ro B FP w) (hL : L ≤ G.length) (hs : St N B Z G FP ds T H a w)
    (hn : ∀ a' w', (∃ T' H' Z' G' FP', K T' H' ∧ St N B Z' G' FP' ds T' H' a' w' ∧ GLt L G G' ∧ Evo Z FP w Z' FP' w') → wpListIn (Wd ro) n P all.toArray Q rest a' w') :
    wpListIn (Wd ro) n P all.toArray Q (o :: rest) a w :=
  wpListIn_plain hg fun K' hK' => h ro n B Z G FP ds a w hB hL hs K' Q fun a' w' hx => hK' _ _ (hn a' w' hx)

theorem St.yields {N B : Nat} {Z : Nat → Prop} {G : List (Option OG)} {FP : Nat → List Nat} {ds : List Nat} {T : Nat → HV} {H : Heap} {a : Act} {w : World} (hs : St N B Z G FP ds T H a w) {all : List Oper} (hd : all.all (dstOk N) = true) {j : Nat} {b : Bool} (h : gval all T j = .v (.bool b)) :
    yielded all.toArray a.tmps j = some b := by
  unfold gval at h
  unfold yielded
  cases hj : all[j]? with
  | none => rw [hj] at h; simp at h
  | some o =>
    rw [hj] at h
    simp only [Option.bind_some] at h
    cases hod : o.dst with
    | none => rw [hod] at h; simp at h
    | some d =>
      rw [hod] at h
      simp only at h
      have hdN : d < N := by
        have := List.all_eq_true.1 hd o (List.mem_of_getElem? hj)
        simpa [dstOk, hod] using this
      have hv := hs.tmps d hdN
      rw [h] at hv
      simp only [RV] at hv
      have hsz : d < a.tmps.size := by rw [hs.size]; exact hdN
      have : a.tmps[d]? = some (.bool b) := by
        rw [Array.getElem?_eq_getElem hsz]
        have h2 := hv.2
        simp [Array.getD_eq_getD_getElem?, hsz] at h2
        rw [h2]
      simp [hj, hod, this]

/-- A guard whose operation was passed over: nothing is yielded. -/
theorem St.yieldsNo {N B : Nat} {Z : Nat → Prop} {G : List (Option OG)} {FP : Nat → List Nat} {ds : List Nat} {T : Nat → HV} {H : Heap} {a : Act} {w : World} (hs : St N B Z G FP ds T H a w) {all : List Oper} (hd : all.all (dstOk N) = true) {j : Nat} {ts : Array Value} (h : gval all T j = .v (.tuple ts)) :
    yielded all.toArray a.tmps j = none := by
  unfold gval at h
  unfold yielded
  cases hj : all[j]? with
  | none => rw [hj] at h; simp at h
  | some o =>
    rw [hj] at h
    simp only [Option.bind_some] at h
    cases hod : o.dst with
    | none => rw [hod] at h; simp at h
    | some d =>
      rw [hod] at h
      simp only at h
      have hdN : d < N := by
        have := List.all_eq_true.1 hd o (List.mem_of_getElem? hj)
        simpa [dstOk, hod] using this
      have hv := hs.tmps d hdN
      rw [h] at hv
      simp only [RV] at hv
      have hsz : d < a.tmps.size := by rw [hs.size]; exact hdN
      have : a.tmps[d]? = some (.tuple ts) := by
        rw [Array.getElem?_eq_getElem hsz]
        have h2 := hv.2
        simp [Array.getD_eq_getD_getElem?, hsz] at h2
        rw [h2]
      simp [hj, hod, this]
end Go.Proofs.YtcpefnjofekibaaDoor
