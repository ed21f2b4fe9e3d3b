/- Part O of the engine: names told off; steps that turn nothing but what is said (Ghost); what a function gives back. -/
import Derived.Test.YtcpefnjofekibaaDoorHiN
namespace Go.Proofs.YtcpefnjofekibaaDoor
open Go.RowKit
set_option linter.unusedVariables false
set_option linter.unusedSimpArgs false

mutual
/-- It names objects below m alone. -/
def nm (m : Nat) : HV → Bool
  | .hd id _ _ => decide (id < m)
  | .pt id _ _ _ => decide (id < m)
  | .ag cs => nmL m cs
  | .tu cs => nmL m cs
  | .fn _ cs => nmL m cs
  | .ic _ x => nm m x
  | .mp id => decide (id < m)
  | .yl id => decide (id < m)
  | _ => true
def nmL (m : Nat) : List HV → Bool
  | [] => true
  | h :: t => nm m h && nmL m t
end
def nmR (m : Nat) : List (List HV) → Bool
  | [] => true
  | r :: t => nmL m r && nmR m t

section
variable {Z : Nat → Prop} {w : World}

theorem take_get {α : Type} {l : List α} {m i : Nat} (h : i < m) : (l.take m)[i]? = l[i]? := by
  rw [List.getElem?_take, if_pos h]

mutual
theorem nm_spec : ∀ (h : HV) (m : Nat) (G : List (Option OG)) (y : Value) (fr : List Nat), nm m h = true → RV Z G w h y fr → RV Z (G.take m) w h y fr
  | .any, m, G, y, fr, hn, hr => by simpa only [RV] using hr
  | .v x, m, G, y, fr, hn, hr => by simpa only [RV] using hr
  | .sl rows, m, G, y, fr, hn, hr => by simpa only [RV] using hr
  | .fp .., m, G, y, fr, hn, hr => by simpa only [RV] using hr
  | .ow .., m, G, y, fr, hn, hr => by simpa only [RV] using hr
  | .bx .., m, G, y, fr, hn, hr => by simpa only [RV] using hr
  | .ob _, m, G, y, fr, hn, hr => by simp only [RV] at hr
  | .om .., m, G, y, fr, hn, hr => by simpa only [RV] using hr
  | .mp id, m, G, y, fr, hn, hr => by
    simp only [nm, decide_eq_true_eq] at hn
    simp only [RV] at hr ⊢
    obtain ⟨h1, h2, h3, h4⟩ := hr
    refine ⟨h1, h2, by simp; omega, fun g hg => h4 g (by rwa [take_get hn] at hg)⟩
  | .yl id, m, G, y, fr, hn, hr => by
    simp only [nm, decide_eq_true_eq] at hn
    simp only [RV] at hr ⊢
    obtain ⟨h1, h3, l, h2, h4⟩ := hr
    refine ⟨h1, by simp; omega, l, h2, fun g hg => h4 g (by rwa [take_get hn] at hg)⟩
  | .hd id off len, m, G, y, fr, hn, hr => by
    simp only [nm, decide_eq_true_eq] at hn
    simp only [RV] at hr ⊢
    obtain ⟨h1, h2, h3, h4⟩ := hr
    refine ⟨h1, h2, by simp; omega, fun g hg => h4 g (by rwa [take_get hn] at hg)⟩
  | .pt id n r o, m, G, y, fr, hn, hr => by
    simp only [nm, decide_eq_true_eq] at hn
    simp only [RV] at hr ⊢
    obtain ⟨h1, h2, h3, h4⟩ := hr
    refine ⟨h1, h2, by simp; omega, fun g hg => h4 g (by rwa [take_get hn] at hg)⟩
  | .ag cs, m, G, y, fr, hn, hr => by
    simp only [RV] at hr ⊢
    obtain ⟨ys, h1, h2⟩ := hr
    exact ⟨ys, h1, nmL_spec cs m G _ fr (by simpa [nm] using hn) h2⟩
  | .tu cs, m, G, y, fr, hn, hr => by
    simp only [RV] at hr ⊢
    obtain ⟨ys, h1, h2⟩ := hr
    exact ⟨ys, h1, nmL_spec cs m G _ fr (by simpa [nm] using hn) h2⟩
  | .fn f cs, m, G, y, fr, hn, hr => by
    simp only [RV] at hr ⊢
    obtain ⟨ys, h1, h2⟩ := hr
    exact ⟨ys, h1, nmL_spec cs m G _ fr (by simpa [nm] using hn) h2⟩
  | .ic t x, m, G, y, fr, hn, hr => by
    simp only [RV] at hr ⊢
    obtain ⟨h0, z, h1, h2⟩ := hr
    exact ⟨h0, z, h1, nm_spec x m G z [] (by simpa [nm] using hn) h2⟩
theorem nmL_spec : ∀ (l : List HV) (m : Nat) (G : List (Option OG)) (ys : List Value) (fr : List Nat), nmL m l = true → RL Z G w l ys fr → RL Z (G.take m) w l ys fr
  | [], m, G, ys, fr, hn, hr => by simpa only [RL] using hr
  | h :: t, m, G, ys, fr, hn, hr => by
    simp only [nmL, Bool.and_eq_true] at hn
    simp only [RL] at hr ⊢
    obtain ⟨y, ys', f1, f2, h1, h2, h3, h4⟩ := hr
    exact ⟨y, ys', f1, f2, h1, h2, nm_spec h m G y f1 hn.1 h3, nmL_spec t m G ys' f2 hn.2 h4⟩
end
theorem nmC_spec : ∀ (l : List HV) (m : Nat) (G : List (Option OG)) (b k : Nat) (fr : List Nat), nmL m l = true → RC Z G w l b k fr → RC Z (G.take m) w l b k fr
  | [], m, G, b, k, fr, hn, hr => by simpa only [RC] using hr
  | h :: t, m, G, b, k, fr, hn, hr => by
    simp only [nmL, Bool.and_eq_true] at hn
    simp only [RC] at hr ⊢
    obtain ⟨y, f1, f2, h1, h2, h3, h4, h5⟩ := hr
    exact ⟨y, f1, f2, h1, h2, h3, nm_spec h m G y f1 hn.1 h4, nmC_spec t m G b (k + 1) f2 hn.2 h5⟩
theorem nmR_spec : ∀ (l : List (List HV)) (m : Nat) (G : List (Option OG)) (b k : Nat) (fr : List Nat), nmR m l = true → RR Z G w l b k fr → RR Z (G.take m) w l b k fr
  | [], m, G, b, k, fr, hn, hr => by simpa only [RR] using hr
  | r :: t, m, G, b, k, fr, hn, hr => by
    simp only [nmR, Bool.and_eq_true] at hn
    simp only [RR] at hr ⊢
    obtain ⟨f1, f2, h1, h2, h3⟩ := hr
    exact ⟨f1, f2, h1, nmC_spec r m G b k f1 hn.1 h2, nmR_spec t m G b (k + r.length) f2 hn.2 h3⟩

theorem OB.trunc {G : List (Option OG)} {o : HObj} {g : OG} {fp : List Nat} (hob : OB Z G w o g fp) (m : Nat) (hn : nmR m o.rows = true) : OB Z (G.take m) w o g fp :=
  ⟨hob.e, hob.sz, hob.n, hob.len, hob.at_.imp id (by
      rintro (⟨b, cells, f, h1, h2, h3, h4, h5, h6, h7⟩ | ⟨x, hs, obj, f, h1, h2, h3, h4, h5, h6⟩)
      · exact .inl ⟨b, cells, f, h1, h2, h3, h4, h5, h6, nmR_spec _ m G b 0 f hn h7⟩
      · rw [h2] at hn
        simp only [nmR, nmL, nm, Bool.and_true, Bool.true_and] at hn
        exact .inr ⟨x, hs, obj, f, h1, h2, h3, h4, h5, nmL_spec hs m G _ f hn h6⟩)⟩

/-- The first m objects are told of no others. -/
def nmH (m : Nat) (H : Heap) : Bool := (H.take m).all fun o => match o with | some ob => nmR m ob.rows | none => true

/-- The objects from m on are forgotten. -/
theorem HInv.trunc {G : List (Option OG)} {FP : Nat → List Nat} {H : Heap} (h : HInv Z G FP H w) (m : Nat) (hm : nmH m H = true) : HInv Z (G.take m) (fun j => if j < m then FP j else []) (H.take m) w := by
  have lt : ∀ {j : Nat} {x : Option HObj}, (H.take m)[j]? = some x → j < m := fun hj => by
    have := (List.getElem?_eq_some_iff.1 hj).1; simp at this; omega
  refine ⟨by simp [h.len], fun j hj => ?_, fun j hj => ?_, fun j o hj => ?_, fun j => ?_, fun i j b hi hj => ?_, h.zlt, fun j b hb => ?_, fun j b hb => ?_, h.glob⟩
  · have := lt hj; rw [take_get this] at hj ⊢; exact h.dead j hj
  · by_cases e : j < m
    · simp only [if_pos e]; exact h.nofp j (fun o => by have := hj o; rwa [take_get e] at this)
    · simp [e]
  · have e := lt hj
    rw [take_get e] at hj
    obtain ⟨g, hg, hob⟩ := h.live j o hj
    refine ⟨g, by rw [take_get e]; exact hg, ?_⟩
    simp only [if_pos e]
    have hn : nmR m o.rows = true := by
      have := List.all_eq_true.1 hm (some o) (List.mem_of_getElem? (by rw [take_get e]; exact hj))
      simpa using this
    exact hob.trunc m hn
  · by_cases e : j < m
    · simp only [if_pos e]; exact h.nodup j
    · simp [e]
  · by_cases e1 : i < m
    · by_cases e2 : j < m
      · simp only [if_pos e1] at hi; simp only [if_pos e2] at hj; exact h.disj i j b hi hj
      · simp [e2] at hj
    · simp [e1] at hi
  · by_cases e : j < m
    · simp only [if_pos e] at hb; exact h.flt j b hb
    · simp [e] at hb
  · by_cases e : j < m
    · simp only [if_pos e] at hb; exact h.zfp j b hb
    · simp [e] at hb

theorem GLt.take {L m : Nat} {G : List (Option OG)} (hm : L ≤ m) (hL : L ≤ G.length) : GLt L G (G.take m) :=
  ⟨by simp; omega, fun id hid => .inr (.inl (take_get (by omega)))⟩
end

/-- A step that turns nothing but what is said. -/
def Ghost (N L : Nat) (T : Nat → HV) (H : Heap) (T' : Nat → HV) (H' : Heap) : Prop :=
  ∀ B Z G FP ds a w, L ≤ G.length → St N B Z G FP ds T H a w → ∃ Z' G' FP', St N B Z' G' FP' ds T' H' a w ∧ GLt L G G' ∧ Evo Z FP w Z' FP' w

section
variable {P : Program} {N L : Nat} {T T' T'' : Nat → HV} {H H' H'' : Heap} {Q : Exit → (Nat → HV) → Heap → Prop}

theorem Ghost.refl : Ghost N L T H T H := fun B Z G FP ds a w hL hs => ⟨Z, G, FP, hs, GLt.refl hL, Evo.refl _ _ _⟩
theorem Ghost.trans (h : Ghost N L T H T' H') (k : Ghost N L T' H' T'' H'') : Ghost N L T H T'' H'' := fun B Z G FP ds a w hL hs => by
  obtain ⟨Z1, G1, FP1, h1, h2, h3⟩ := h B Z G FP ds a w hL hs
  obtain ⟨Z2, G2, FP2, k1, k2, k3⟩ := k B Z1 G1 FP1 ds a w h2.len h1
  exact ⟨Z2, G2, FP2, k1, h2.trans k2, h3.trans k3⟩

theorem HW.ghost {c : Code} (g : Ghost N L T H T' H') (h : HW P N L c Q T' H') : HW P N L c Q T H := by
  intro ro n B Z G FP ds a w hB hL hs
  obtain ⟨Z1, G1, FP1, h1, h2, h3⟩ := g B Z G FP ds a w hL hs
  refine wpIn_mono (h ro n B Z1 G1 FP1 ds a w (hB.evo h3) h2.len h1) ?_
  rintro e a' w' ⟨T'', H'', Z'', G'', FP'', ds'', k1, k2, k3, k4⟩
  exact ⟨T'', H'', Z'', G'', FP'', ds'', k1, k2, h2.trans k3, h3.trans k4⟩

/-- What was said may be ghosted at the end. -/
def GQ (N L : Nat) (R : (Nat → HV) → Heap → Prop) (T : Nat → HV) (H : Heap) : Prop := ∃ T' H', Ghost N L T H T' H' ∧ R T' H'

theorem HW.weaken {c : Code} {Q' : Exit → (Nat → HV) → Heap → Prop} (h : HW P N L c Q' T H) (hq : ∀ e T H, Q' e T H → GQ N L (Q e) T H) : HW P N L c Q T H := by
  intro ro n B Z G FP ds a w hB hL hs
  refine wpIn_mono (h ro n B Z G FP ds a w hB hL hs) ?_
  rintro e a' w' ⟨T', H', Z', G', FP', ds', k1, k2, k3, k4⟩
  obtain ⟨T'', H'', g, hq'⟩ := hq e T' H' k1
  obtain ⟨Z1, G1, FP1, h1, h2, h3⟩ := g B Z' G' FP' ds' a' w' k3.len k2
  exact ⟨T'', H'', Z1, G1, FP1, ds', hq', h1, k3.trans h2, k4.trans h3⟩

/-- The loop's rule, with ghosts between the rounds. -/
theorem HW.loopG {c : Code} (I : Nat → (Nat → HV) → Heap → Prop) (k0 : Nat) (h0 : GQ N L (I k0) T H)
    (round : ∀ k T H, I k T H → HW P N L c (fin (GQ N L fun T' H' => ∃ k', k' < k ∧ I k' T' H') Q) T H) : HW P N L (.loop c) Q T H := by
  obtain ⟨T0, H0, g, hI⟩ := h0
  refine HW.ghost g (HW.loop I k0 hI fun k T H hk => HW.weaken (round k T H hk) ?_)
  intro e T H hq
  cases e with
  | normal => exact hq
  | _ => exact ⟨T, H, Ghost.refl, hq⟩

/-- Temporaries are forgotten. -/
theorem Ghost.forget (h : ∀ i, i < N → T' i = T i ∨ T' i = .any) : Ghost N L T H T' H := fun B Z G FP ds a w hL hs => by
  refine ⟨Z, G, FP, ⟨hs.inv, hs.size, fun i hi => ?_, hs.defers, hs.dsn, hs.dsat⟩, GLt.refl hL, Evo.refl _ _ _⟩
  rcases h i hi with e | e
  · rw [e]; exact hs.tmps i hi
  · rw [e]; simp [RV]

def keepT (ks : List Nat) (T : Nat → HV) : Nat → HV := fun i => if ks.contains i = true then T i else .any

/-- Objects from m on are forgotten, and all temporaries but some. -/
theorem Ghost.trunc (ks : List Nat) (m : Nat) (hm : L ≤ m) (hk : (ks.all fun i => nm m (T i)) = true) (hH : nmH m H = true) : Ghost N L T H (keepT ks T) (H.take m) := fun B Z G FP ds a w hL hs => by
  refine ⟨Z, G.take m, fun j => if j < m then FP j else [], ⟨hs.inv.trunc m hH, hs.size, fun i hi => ?_, hs.defers, hs.dsn, fun d hd => ?_⟩, GLt.take hm hL, ⟨rfl, rfl, rfl, Nat.le_refl _, fun _ _ _ => rfl, fun _ h => h, fun _ h => .inl h, fun j b hb => ?_⟩⟩
  · unfold keepT
    split
    · rename_i hin; exact nm_spec _ m G _ [] (List.all_eq_true.1 hk i (by simpa using hin)) (hs.tmps i hi)
    · simp [RV]
  · obtain ⟨h1, h2, h3, h4⟩ := hs.dsat d hd
    refine ⟨h1, h2, h3, fun j hj => ?_⟩
    by_cases e : j < m
    · simp only [if_pos e] at hj; exact h4 j hj
    · simp [e] at hj
  · by_cases e : j < m
    · simp only [if_pos e] at hb; exact .inr ⟨j, hb⟩
    · simp [e] at hb

/-- A temporary that is nil becomes a slice without rows. -/
theorem Ghost.nil (i : Nat) (e : TypeId) (sz : Nat) (hi : T i = .v (.slice none 0 0)) : Ghost N L T H (upd T i (.hd H.length 0 0)) (H ++ [some ⟨e, sz, []⟩]) := fun B Z G FP ds a w hL hs => by
  have hinv := hs.inv.new (w' := w) (o := ⟨e, sz, []⟩) (g := ⟨none, e, sz, 0, 0⟩) (fp := []) (Nat.le_refl _) (fun _ _ => rfl) ⟨rfl, rfl, rfl, by simp, .inl ⟨rfl, rfl, rfl⟩⟩ (by simp) (by simp)
  have hE : Evo Z FP w Z (fun j => if j = H.length then [] else FP j) w := evo_new (hs.inv.nofp _ (by simp)) rfl rfl rfl (Nat.le_refl _) (fun _ _ => rfl) (by simp)
  have hs' := hs.evo hinv (GLe.more _) hE
  refine ⟨Z, _, _, ⟨hs'.inv, hs'.size, fun j hj => ?_, hs'.defers, hs'.dsn, hs'.dsat⟩, GLt.of hL (GLe.more _), hE⟩
  unfold upd
  split
  · rename_i hji
    subst hji
    have h0 := hs.tmps j hj
    rw [hi] at h0
    rw [RV_v h0]
    simp only [RV]
    rw [← hs.inv.len]
    refine ⟨trivial, rfl, by simp, fun g hg => ?_⟩
    simp at hg; subst hg
    exact ⟨Nat.le_refl _, fun _ => ⟨rfl, rfl, rfl⟩⟩
  · exact hs'.tmps j hj

theorem GLe.take0 {G : List (Option OG)} : G.take 0 = [] := List.take_zero

/-- What a name at a cell leads to is owned there from now on. -/
def absorb (H : Heap) (id r c : Nat) : Heap :=
  match H[id]? with
  | some (some ob) =>
    match ob.rows[r]? with
    | some row =>
      match row[c]? with
      | some (.hd j 0 len) =>
        match H[j]? with
        | some (some oj) => if j ≠ id ∧ len = oj.rows.length ∧ nmR 0 oj.rows = true then (H.set j none).set id (some { ob with rows := ob.rows.set r (row.set c (.ow oj.e oj.sz oj.rows)) }) else H
        | _ => H
      | some (.pt j 1 0 0) =>
        match H[j]? with
        | some (some oj) =>
          match oj.rows with
          | [rw] => if j ≠ id ∧ nmL 0 rw = true then (H.set j none).set id (some { ob with rows := ob.rows.set r (row.set c (.bx oj.e oj.sz rw)) }) else H
          | _ => H
        | _ => H
      | some (.mp j) =>
        match H[j]? with
        | some (some oj) =>
          match oj.rows with
          | [.ob x :: hs] => if j ≠ id ∧ nmL 0 hs = true then (H.set j none).set id (some { ob with rows := ob.rows.set r (row.set c (.om x hs)) }) else H
          | _ => H
        | _ => H
      | _ => H
    | none => H
  | _ => H
end

section
variable {Z : Nat → Prop} {G : List (Option OG)} {FP : Nat → List Nat} {H : Heap} {w : World}

/-- An object, as what is owned. -/
theorem obj_ow {id len : Nat} {oj : HObj} {y : Value} (hi : HInv Z G FP H w) (ho : H[id]? = some (some oj)) (hlen : len = oj.rows.length) (hn : nmR 0 oj.rows = true) (hv : RV Z G w (.hd id 0 len) y []) (G' : List (Option OG)) : RV Z G' w (.ow oj.e oj.sz oj.rows) y (FP id) := by
  obtain ⟨g, hg, hOB, hview⟩ := hd_at hi ho (by omega) hv
  simp only [RV]
  unfold View at hview
  split at hview
  · rename_i hbn
    obtain ⟨hview, hv1, hv2⟩ := hview
    rcases hOB.at_ with ⟨_, e1, e2⟩ | ⟨b, cells, f, e1, _⟩ | ⟨u3, hs3, obj3, f3, e1, e3, _⟩
    · exact .inl ⟨e1, hview, e2⟩
    · rw [hbn] at e1; cases e1
    · have := congrArg List.length e3; simp only [List.length_cons, List.length_nil] at this; omega
  · rename_i b hb
    obtain ⟨ad, hy, hA⟩ := hview
    obtain ⟨b', cells, f, e1, e2, e3, e4, e5, e6, e7⟩ := hOB.cells_ hb
    rw [hb] at e1; cases e1
    have := nmR_spec _ 0 G b 0 f hn e7
    rw [List.take_zero] at this
    exact .inr ⟨b, g.cap, cells, f, by rw [hy, hA (.inr rfl), hlen]; simp, e2, e3, e4, e5, e6, hOB.len, this⟩

theorem obj_bx {id : Nat} {oj : HObj} {row : List HV} {y : Value} (hi : HInv Z G FP H w) (ho : H[id]? = some (some oj)) (hrow : oj.rows = [row]) (hn : nmL 0 row = true) (hv : RV Z G w (.pt id 1 0 0) y []) (G' : List (Option OG)) : RV Z G' w (.bx oj.e oj.sz row) y (FP id) := by
  obtain ⟨g, b, cells, f, hg, hOB, hb, hf, hh, hc, hcap, hml, hrr, hy, hrl⟩ := pt_at hi ho (n := 1) (r := 0) (o := 0) (by rw [hrow]; rfl) (row := row) (by rw [hrow]; rfl) hv
  simp only [RV]
  rw [hrow] at hrr hcap
  simp only [RR] at hrr
  obtain ⟨f1, f2, hf12, h1, h2⟩ := hrr
  subst h2
  rw [List.append_nil] at hf12
  subst hf12
  have := nmC_spec row 0 G b 0 f hn h1
  rw [List.take_zero] at this
  exact ⟨b, g.cap, cells, f, by rw [hy]; simp, hf, hh, hc, by simpa using hcap, hml, hrl, this⟩

/-- A map, as what is owned. -/
theorem obj_om {id : Nat} {oj : HObj} {x : Obj} {hs : List HV} {y : Value} (hi : HInv Z G FP H w) (ho : H[id]? = some (some oj)) (hrow : oj.rows = [.ob x :: hs]) (hn : nmL 0 hs = true) (hv : RV Z G w (.mp id) y []) (G' : List (Option OG)) : RV Z G' w (.om x hs) y (FP id) := by
  obtain ⟨g, hg, hOB⟩ := hi.live id oj ho
  simp only [RV] at hv ⊢
  obtain ⟨_, _, _, hv⟩ := hv
  rcases hOB.at_ with ⟨_, e1, _⟩ | ⟨b, cells, f, e1, e2, e3, e4, e5, e6, e7⟩ | ⟨x', hs', obj, f, e1, e2, e3, e4, e5, e6⟩
  · rw [hrow] at e1; cases e1
  · rw [hrow] at e7
    simp only [RR, RC, RV] at e7
    obtain ⟨_, _, _, ⟨_, _, _, _, _, _, h, _⟩, _⟩ := e7
    exact h.elim
  · rw [hrow] at e2
    cases e2
    have hy := (hv g hg).2 (by rw [hOB.n, hrow]; rfl) e1
    have := nmL_spec hs 0 G _ f hn e6
    rw [List.take_zero] at this
    exact ⟨g.cap, obj, f, hy, e3, e4, e5, this⟩

theorem absorb_core {id j r c : Nat} {ob oj : HObj} {row : List HV} {x h' : HV} (hi : HInv Z G FP H w) (ho : H[id]? = some (some ob)) (hr : ob.rows[r]? = some row) (hc : row[c]? = some x) (hj : H[j]? = some (some oj)) (hne : j ≠ id)
    (hx : ∀ y, RV Z G w x y [] → ∀ G', RV Z G' w h' y (FP j)) (htv : tv x = true) (hnb : ∀ u, x ≠ .ob u) :
    ∃ G' FP', HInv Z G' FP' ((H.set j none).set id (some { ob with rows := ob.rows.set r (row.set c h') })) w ∧ GLe G G' ∧ Evo Z FP w Z FP' w := by
  have k1 := hi.kill j
  have hoj : (H.set j none)[id]? = some (some ob) := by rw [List.getElem?_set_ne hne]; exact ho
  obtain ⟨g, hg0, hOB⟩ := hi.live id ob ho
  have hg : (G.set j none)[id]? = some (some g) := by rw [List.getElem?_set_ne hne]; exact hg0
  obtain ⟨y, fx, fa, hv, hperm, hsw⟩ := hOB.swap hr hc hnb
  have hfx : fx = [] := RV_tv x y fx htv hv
  subst hfx
  obtain ⟨fp', hOB', hp'⟩ := hsw (G.set j none) h' (FP j) (GLe.kill j) (hx y hv _)
  simp only [List.nil_append] at hperm
  have hndj := hi.nodup j
  have hndi := hi.nodup id
  have hdis : ∀ b, b ∈ FP j → b ∈ FP id → False := fun b h1 h2 => hne (hi.disj j id b h1 h2)
  have hnd' : fp'.Nodup := by
    rw [hp'.nodup_iff]
    exact List.nodup_append.2 ⟨hndj, hperm.nodup_iff.1 hndi, fun a ha b hb e => by subst e; exact hdis a ha (hperm.mem_iff.2 hb)⟩
  have hmem : ∀ b ∈ fp', b ∈ FP j ∨ b ∈ FP id := fun b hb => by
    rcases List.mem_append.1 (hp'.mem_iff.1 hb) with h | h
    · exact .inl h
    · exact .inr (hperm.mem_iff.2 h)
  have i2 := k1.say hoj hg hOB' hnd' (fun b hb => by
    rcases hmem b hb with h | h
    · refine ⟨hi.zfp j b h, hi.flt j b h, fun q hq hc => ?_⟩
      by_cases e : q = j
      · simp [e] at hc
      · simp only [if_neg e] at hc; exact e (hi.disj q j b hc h)
    · refine ⟨hi.zfp id b h, hi.flt id b h, fun q hq hc => ?_⟩
      by_cases e : q = j
      · simp [e] at hc
      · simp only [if_neg e] at hc; exact hq (hi.disj q id b hc h))
  refine ⟨_, _, i2, GLe.kill j, ⟨rfl, rfl, rfl, Nat.le_refl _, fun _ _ _ => rfl, fun _ h => h, fun _ h => .inl h, fun q b hb => ?_⟩⟩
  by_cases e : q = id
  · simp only [if_pos e] at hb
    rcases hmem b hb with h | h
    · exact .inr ⟨_, h⟩
    · exact .inr ⟨_, h⟩
  · simp only [if_neg e] at hb
    by_cases e2 : q = j
    · simp [e2] at hb
    · simp only [if_neg e2] at hb; exact .inr ⟨q, hb⟩

theorem absorb_inv (hi : HInv Z G FP H w) (id r c : Nat) : ∃ G' FP', HInv Z G' FP' (absorb H id r c) w ∧ GLe G G' ∧ Evo Z FP w Z FP' w := by
  have none : ∃ G' FP', HInv Z G' FP' H w ∧ GLe G G' ∧ Evo Z FP w Z FP' w := ⟨G, FP, hi, GLe.refl _, Evo.refl _ _ _⟩
  unfold absorb
  split
  · rename_i ob ho
    split
    · rename_i row hr
      split
      · rename_i j len hc
        split
        · rename_i oj hj
          split
          · rename_i hcond
            exact absorb_core hi ho hr hc hj hcond.1 (fun y hv G' => obj_ow hi hj hcond.2.1 hcond.2.2 hv G') rfl (by simp)
          · exact none
        · exact none
      · rename_i j hc
        split
        · rename_i oj hj
          split
          · rename_i rw' hrw
            split
            · rename_i hcond
              exact absorb_core hi ho hr hc hj hcond.1 (fun y hv G' => obj_bx hi hj hrw hcond.2 hv G') rfl (by simp)
            · exact none
          · exact none
        · exact none
      · rename_i j hc
        split
        · rename_i oj hj
          split
          · rename_i x hs hrw
            split
            · rename_i hcond
              exact absorb_core hi ho hr hc hj hcond.1 (fun y hv G' => obj_om hi hj hrw hcond.2 hv G') rfl (by simp)
            · exact none
          · exact none
        · exact none
      · exact none
    · exact none
  · exact none

theorem Ghost.absorb {N L : Nat} {T : Nat → HV} (id r c : Nat) : Ghost N L T H T (absorb H id r c) := fun B Z G FP ds a w hL hs => by
  obtain ⟨G', FP', h1, h2, h3⟩ := absorb_inv hs.inv id r c
  exact ⟨Z, G', FP', hs.evo h1 h2 h3, GLt.of hL h2, h3⟩
end
end Go.Proofs.YtcpefnjofekibaaDoor
