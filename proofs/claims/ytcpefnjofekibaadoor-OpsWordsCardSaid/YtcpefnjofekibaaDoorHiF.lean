/- Part F of the engine: a cell of an object turned, opened, filled; cells loaded and stored. -/
import Derived.Test.YtcpefnjofekibaaDoorHiE
namespace Go.Proofs.YtcpefnjofekibaaDoor
open Go.RowKit
set_option linter.unusedVariables false
set_option linter.unusedSimpArgs false

section
variable {Z : Nat → Prop} {G : List (Option OG)} {FP : Nat → List Nat} {H : Heap} {w : World}

/-- Where a pointer into an object leads. -/
theorem pt_at {id n r o : Nat} {y : Value} {ob : HObj} {row : List HV} (hi : HInv Z G FP H w) (ho : H[id]? = some (some ob)) (hn : n = ob.rows.length) (hr : ob.rows[r]? = some row) (hv : RV Z G w (.pt id n r o) y []) :
    ∃ g b cells f, G[id]? = some (some g) ∧ OB Z G w ob g (FP id) ∧ g.blk = some b ∧ FP id = b :: f ∧ w.heap[b]? = some (.cells cells ob.e (0, 0)) ∧ cells.size = g.cap * ob.sz ∧ ob.rows.length ≤ g.cap ∧ g.cap ≤ maxLen ∧
      RR Z G w ob.rows b 0 f ∧ y = .pointer (some ⟨b, r * ob.sz + o, none⟩) ∧ row.length = ob.sz := by
  obtain ⟨g, hg, hob⟩ := hi.live id ob ho
  simp only [RV] at hv
  obtain ⟨_, _, _, h⟩ := hv
  obtain ⟨b, hb, rfl⟩ := (h g hg).2 (by rw [hn, hob.n])
  rcases hob.at_ with ⟨h1, h2, h3⟩ | ⟨b', cells, f, h1, h2, h3, h4, h5, h6, h7⟩ | ⟨x, hs, obj, f, h1, _⟩
  · rw [h2] at hr; simp at hr
  · rw [hb] at h1
    cases h1
    exact ⟨g, b, cells, f, hg, hob, hb, h2, h3, h4, h5, h6, h7, by rw [hob.sz], hob.len row (List.mem_of_getElem? hr)⟩
  · rw [hb] at h1; cases h1

theorem OB.cells_ {ob : HObj} {g : OG} {fp : List Nat} {b : Nat} (h : OB Z G w ob g fp) (hb : g.blk = some b) :
    ∃ b cells f, g.blk = some b ∧ fp = b :: f ∧ w.heap[b]? = some (.cells cells ob.e (0, 0)) ∧ cells.size = g.cap * ob.sz ∧ ob.rows.length ≤ g.cap ∧ g.cap ≤ maxLen ∧ RR Z G w ob.rows b 0 f := by
  rcases h.at_ with ⟨e1, _⟩ | h | ⟨_, _, _, _, e1, _⟩
  · rw [hb] at e1; cases e1
  · exact h
  · rw [hb] at e1; cases e1

theorem set_self {α : Type} {l : List α} {i : Nat} {x : α} (h : l[i]? = some x) : l.set i x = l := by
  apply List.ext_getElem?
  intro j
  by_cases e : i = j
  · subst e; rw [List.getElem?_set_self (List.getElem?_eq_some_iff.1 h).1, h]
  · rw [List.getElem?_set_ne e]

/-- The object stands as it stood, but for what is said of it. -/
theorem HInv.say (h : HInv Z G FP H w) {id : Nat} {o o' : HObj} {g : OG} {fp' : List Nat} (ho : H[id]? = some (some o)) (hg : G[id]? = some (some g)) (hob : OB Z G w o' g fp') (hnd : fp'.Nodup)
    (hfp : ∀ b ∈ fp', ¬ Z b ∧ b < w.heap.size ∧ ∀ j, j ≠ id → b ∉ FP j) : HInv Z G (fun j => if j = id then fp' else FP j) (H.set id (some o')) w := by
  have := h.turn (g' := g) ho hg (.inl rfl) (Nat.le_refl _) (fun _ _ _ => rfl) (by rw [set_self hg]; exact hob) hnd hfp
  rwa [set_self hg] at this

/-- One cell of an object: what stands there; and something else said of it. -/
theorem OB.swap {ob : HObj} {g : OG} {fp : List Nat} {r c : Nat} {row : List HV} {x : HV} (h : OB Z G w ob g fp) (hr : ob.rows[r]? = some row) (hc : row[c]? = some x) (hnb : ∀ u, x ≠ .ob u) :
    ∃ y fx fa, RV Z G w x y fx ∧ fp.Perm (fx ++ fa) ∧
      ∀ (G' : List (Option OG)) (h' : HV) (fx' : List Nat), GLe G G' → RV Z G' w h' y fx' →
        ∃ fp', OB Z G' w { ob with rows := ob.rows.set r (row.set c h') } g fp' ∧ fp'.Perm (fx' ++ fa) := by
  have hrl := List.getElem?_eq_some_iff.1 hr
  have hcl := List.getElem?_eq_some_iff.1 hc
  have hlen : row.length = ob.sz := h.len row (List.mem_of_getElem? hr)
  rcases h.at_ with ⟨h1, h2, h3⟩ | ⟨b, cells, f, h1, h2, h3, h4, h5, h6, h7⟩ | ⟨u, hs, obj, f, h1, h2, h3, h4, h5, h6⟩
  · rw [h2] at hr; simp at hr
  rotate_left
  · subst h3
    rw [h2] at hr
    have hr0 : r = 0 := by
      cases r with
      | zero => rfl
      | succ r => simp at hr
    subst hr0
    simp at hr
    subst hr
    cases c with
    | zero => simp at hc; exact absurd hc.symm (hnb u)
    | succ c =>
      simp only [List.getElem?_cons_succ] at hc
      have hcl' := List.getElem?_eq_some_iff.1 hc
      have e0 : ∀ z : HV, hs.set c z = hs.take c ++ z :: hs.drop (c + 1) := fun z => by
        rw [List.set_eq_take_append_cons_drop, if_pos hcl'.1]
      have ex : hs = hs.take c ++ x :: hs.drop (c + 1) := by rw [← e0 x, set_self hc]
      rw [ex] at h6
      obtain ⟨yA, yr, fA, fr, hyA, rfl, hA, hB⟩ := (RL_append _ _ _ _).1 h6
      simp only [RL] at hB
      obtain ⟨y, yB, fx, fB, rfl, rfl, hx, hB⟩ := hB
      have hk : ∀ b, Z b → w.heap[b]? = w.heap[b]? := fun _ _ => rfl
      refine ⟨y, fx, g.cap :: (fA ++ fB), hx, ?_, ?_⟩
      · refine List.Perm.trans (List.Perm.cons _ (?_ : (fA ++ (fx ++ fB)).Perm (fx ++ (fA ++ fB)))) List.perm_middle.symm
        rw [← List.append_assoc, ← List.append_assoc]
        exact List.Perm.append_right fB List.perm_append_comm
      · intro G' h' fx' hG hv
        refine ⟨g.cap :: (fA ++ (fx' ++ fB)), ⟨h.e, h.sz, by rw [h.n]; simp, fun q hq => ?_, .inr (.inr ⟨u, hs.set c h', obj, fA ++ (fx' ++ fB), h1, ?_, rfl, h4, h5, ?_⟩)⟩, ?_⟩
        · rcases List.mem_or_eq_of_mem_set hq with hq | rfl
          · exact h.len q hq
          · simpa using hlen
        · simp [h2]
        · rw [e0, hyA]
          refine (RL_append _ _ _ _).2 ⟨_, _, fA, _, rfl, rfl, RL.keep hk (fun _ h => h) hG _ _ _ (fun _ _ => rfl) hA, ?_⟩
          simp only [RL]
          exact ⟨y, _, fx', fB, rfl, rfl, hv, RL.keep hk (fun _ h => h) hG _ _ _ (fun _ _ => rfl) hB⟩
        · refine List.Perm.trans (List.Perm.cons _ (?_ : (fA ++ (fx' ++ fB)).Perm (fx' ++ (fA ++ fB)))) List.perm_middle.symm
          rw [← List.append_assoc, ← List.append_assoc]
          exact List.Perm.append_right fB List.perm_append_comm
  subst h2
  obtain ⟨k1, k2, k3⟩ := (RR_iff h3 ob.rows 0 f (Nat.zero_le _)).1 h7
  simp only [List.drop_zero, Nat.zero_add] at k1 k2 k3
  have hcx : row.set c x = row := set_self hc
  have e0 : ∀ z : HV, row.set c z = row.take c ++ [z] ++ row.drop (c + [z].length) := fun z => by
    rw [List.set_eq_take_append_cons_drop, if_pos hcl.1]; simp
  have ef : ∀ z : HV, (ob.rows.set r (row.set c z)).flatten = ob.rows.flatten.take (r * ob.sz + c) ++ [z] ++ ob.rows.flatten.drop (r * ob.sz + c + 1) := fun z => by
    rw [e0 z]
    exact flat_set ob.rows r row [z] c h.len hr (by have := hcl.1; simp; omega)
  have efx := ef x
  rw [hcx, set_self hr] at efx
  obtain ⟨ys, hys⟩ : ∃ ys, cells.toList.take ob.rows.flatten.length = ys := ⟨_, rfl⟩
  rw [hys] at k2 k3
  rw [efx] at k2
  obtain ⟨ys1, ysr, f1, f2, hy1, rfl, hA, hB⟩ := (RL_append _ _ _ _).1 k2
  obtain ⟨ysA, ysX, fA, fX, rfl, rfl, hA1, hA2⟩ := (RL_append _ _ _ _).1 hA
  simp only [RL] at hA2
  obtain ⟨y, ys', fx, fe, rfl, rfl, hx, rfl, rfl⟩ := hA2
  refine ⟨y, fx, b :: (fA ++ f2), hx, ?_, ?_⟩
  · refine List.Perm.trans (List.Perm.cons b (?_ : (fA ++ (fx ++ []) ++ f2).Perm (fx ++ (fA ++ f2)))) (List.perm_middle.symm)
    rw [List.append_nil, ← List.append_assoc]
    exact List.Perm.append_right f2 List.perm_append_comm
  · intro G' h' fx' hG hv
    have hk : ∀ b, Z b → w.heap[b]? = w.heap[b]? := fun _ _ => rfl
    have hlen' : (ob.rows.set r (row.set c h')).flatten.length = ob.rows.flatten.length := by
      rw [ef h']; conv => rhs; rw [efx]
      simp
    refine ⟨b :: (fA ++ fx' ++ f2), ⟨h.e, h.sz, by rw [h.n]; simp, fun q hq => ?_, .inr (.inl ⟨b, cells, fA ++ fx' ++ f2, h1, rfl, h3, h4, by simpa using h5, h6, ?_⟩)⟩, ?_⟩
    · rcases List.mem_or_eq_of_mem_set hq with hq | rfl
      · exact h.len q hq
      · simpa using hlen
    · refine (RR_iff h3 _ 0 _ (Nat.zero_le _)).2 ⟨by simpa [hlen'] using k1, ?_, ?_⟩
      · simp only [List.drop_zero]
        rw [hlen', hys, hy1, ef h']
        refine (RL_append _ _ _ _).2 ⟨_, ysr, fA ++ fx', f2, rfl, rfl, (RL_append _ _ _ _).2 ⟨ysA, [y], fA, fx', rfl, rfl, RL.keep hk (fun _ h => h) hG _ _ _ (fun _ _ => rfl) hA1, ?_⟩, RL.keep hk (fun _ h => h) hG _ _ _ (fun _ _ => rfl) hB⟩
        simp only [RL]
        exact ⟨y, [], fx', [], rfl, by simp, hv, rfl, rfl⟩
      · simp only [List.drop_zero]
        rw [hlen', hys]
        exact k3
    · refine List.Perm.trans (List.Perm.cons b (?_ : (fA ++ fx' ++ f2).Perm (fx' ++ (fA ++ f2)))) (List.perm_middle.symm)
      rw [← List.append_assoc]
      exact List.Perm.append_right f2 List.perm_append_comm

/-- What is owned at one cell becomes an object, and the cell a name of it. -/
def gopen (H : Heap) (id r c : Nat) : Heap :=
  match H[id]? with
  | some (some ob) =>
    match ob.rows[r]? with
    | some row =>
      match row[c]? with
      | some (.ow e sz rows) => H.set id (some { ob with rows := ob.rows.set r (row.set c (.hd H.length 0 rows.length)) }) ++ [some ⟨e, sz, rows⟩]
      | some (.bx e sz rw) => H.set id (some { ob with rows := ob.rows.set r (row.set c (.pt H.length 1 0 0)) }) ++ [some ⟨e, sz, [rw]⟩]
      | some (.om x hs) => H.set id (some { ob with rows := ob.rows.set r (row.set c (.mp H.length)) }) ++ [some ⟨0, hs.length + 1, [.ob x :: hs]⟩]
      | _ => H
    | none => H
  | _ => H

theorem gopen_core (hi : HInv Z G FP H w) {id r c : Nat} {ob : HObj} {row : List HV} {x h' : HV} {no : HObj} (ho : H[id]? = some (some ob)) (hr : ob.rows[r]? = some row) (hc : row[c]? = some x) (hnb : ∀ u, x ≠ .ob u)
    (hx : ∀ y fx, RV Z G w x y fx → ∃ gn, OB Z (G ++ [some gn]) w no gn fx ∧ RV Z (G ++ [some gn]) w h' y []) :
    ∃ G' FP', HInv Z G' FP' (H.set id (some { ob with rows := ob.rows.set r (row.set c h') }) ++ [some no]) w ∧ GLe G G' ∧ Evo Z FP w Z FP' w := by
  obtain ⟨g, hg, hob⟩ := hi.live id ob ho
  obtain ⟨y, fx, fa, hv, hperm, hsw⟩ := hob.swap hr hc hnb
  obtain ⟨gn, hno, hh'⟩ := hx y fx hv
  have hnd := hi.nodup id
  have hnd' : (fx ++ fa).Nodup := hperm.nodup_iff.1 hnd
  have hlt := hi.lt ho
  have hltH : id < H.length := hi.len ▸ hlt
  -- the cell is forgotten
  obtain ⟨fp1, hob1, hp1⟩ := hsw G .any [] (GLe.refl _) (by simp [RV])
  simp only [List.nil_append] at hp1
  have i1 := hi.say ho hg hob1 (hp1.nodup_iff.2 (List.nodup_append.1 hnd').2.1) (fun b hb => by
    have hb' : b ∈ FP id := hperm.mem_iff.2 (List.mem_append_right _ (hp1.mem_iff.1 hb))
    exact ⟨hi.zfp id b hb', hi.flt id b hb', fun j hj hc => hj (hi.disj j id b hc hb')⟩)
  -- the object is laid
  have i2 := i1.new (w' := w) (o := no) (g := gn) (fp := fx) (Nat.le_refl _) (fun _ _ => rfl) hno (List.nodup_append.1 hnd').1 (fun b hb => by
    have hb' : b ∈ FP id := hperm.mem_iff.2 (List.mem_append_left _ hb)
    refine ⟨hi.zfp id b hb', hi.flt id b hb', fun j hj => ?_⟩
    by_cases e : j = id
    · simp only [if_pos e] at hj
      exact (List.nodup_append.1 hnd').2.2 b hb b (hp1.mem_iff.1 hj) rfl
    · simp only [if_neg e] at hj
      exact e (hi.disj j id b hj hb'))
  -- the cell is a name
  obtain ⟨fp3, hob3, hp3⟩ := hsw (G ++ [some gn]) h' [] (GLe.more _) hh'
  simp only [List.nil_append] at hp3
  have hlen1 : (H.set id (some { ob with rows := ob.rows.set r (row.set c .any) })).length = H.length := by simp
  have ho2 : ((H.set id (some { ob with rows := ob.rows.set r (row.set c .any) })) ++ [some no])[id]? = some (some { ob with rows := ob.rows.set r (row.set c .any) }) := by
    rw [List.getElem?_append_left (by simpa using hltH)]; simp [hltH]
  have hg2 : (G ++ [some gn])[id]? = some (some g) := by rw [List.getElem?_append_left hlt]; exact hg
  have i3 := i2.say ho2 hg2 hob3 (hp3.nodup_iff.2 (List.nodup_append.1 hnd').2.1) (fun b hb => by
    have hb' : b ∈ FP id := hperm.mem_iff.2 (List.mem_append_right _ (hp3.mem_iff.1 hb))
    refine ⟨hi.zfp id b hb', hi.flt id b hb', fun j hj hc => ?_⟩
    by_cases e : j = (H.set id (some { ob with rows := ob.rows.set r (row.set c .any) })).length
    · simp only [if_pos e] at hc
      exact (List.nodup_append.1 hnd').2.2 b hc b (hp3.mem_iff.1 hb) rfl
    · simp only [if_neg e, if_neg hj] at hc
      exact hj (hi.disj j id b hc hb'))
  have eH : (H.set id (some { ob with rows := ob.rows.set r (row.set c .any) }) ++ [some no]).set id (some { ob with rows := ob.rows.set r (row.set c h') }) = H.set id (some { ob with rows := ob.rows.set r (row.set c h') }) ++ [some no] := by
    rw [List.set_append_left _ _ (by simpa using hltH)]; simp
  rw [eH] at i3
  refine ⟨_, _, i3, GLe.more _, ⟨rfl, rfl, rfl, Nat.le_refl _, fun _ _ _ => rfl, fun _ h => h, fun _ h => .inl h, fun j b hb => ?_⟩⟩
  refine .inr ?_
  by_cases e : j = id
  · simp only [if_pos e] at hb; exact ⟨id, hperm.mem_iff.2 (List.mem_append_right _ (hp3.mem_iff.1 hb))⟩
  · simp only [if_neg e] at hb
    split at hb
    · exact ⟨id, hperm.mem_iff.2 (List.mem_append_left _ hb)⟩
    · exact ⟨j, hb⟩

theorem nil_GLe (G : List (Option OG)) : GLe [] G := ⟨Nat.zero_le _, fun _ h => absurd h (Nat.not_lt_zero _)⟩

/-- What is owned, as an object. -/
theorem ow_obj {e : TypeId} {sz : Nat} {rows : List (List HV)} {y : Value} {fx : List Nat} (h : RV Z G w (.ow e sz rows) y fx) :
    ∃ gn, (∀ G', OB Z G' w ⟨e, sz, rows⟩ gn fx) ∧ RV Z (G ++ [some gn]) w (.hd G.length 0 rows.length) y [] := by
  simp only [RV] at h
  rcases h with ⟨rfl, rfl, rfl⟩ | ⟨b, cap, cells, f, rfl, rfl, h1, h2, h3, h4, h5, h6⟩
  · refine ⟨⟨none, e, sz, 0, 0⟩, fun G' => ⟨rfl, rfl, rfl, by simp, .inl ⟨rfl, rfl, rfl⟩⟩, ?_⟩
    simp only [RV]
    refine ⟨trivial, rfl, by simp, fun g hg => ?_⟩
    simp at hg; subst hg
    exact ⟨Nat.le_refl _, fun _ => ⟨rfl, rfl, rfl⟩⟩
  · refine ⟨⟨some b, e, sz, rows.length, cap⟩, fun G' => ⟨rfl, rfl, rfl, h5, .inr (.inl ⟨b, cells, f, rfl, rfl, h1, h2, h3, h4, RR.keep (fun _ _ => rfl) (fun _ h => h) (nil_GLe _) _ _ _ _ rfl (fun _ _ => rfl) h6⟩)⟩, ?_⟩
    simp only [RV]
    refine ⟨trivial, rfl, by simp, fun g hg => ?_⟩
    simp at hg; subst hg
    exact ⟨by simp, fun _ => ⟨⟨b, 0, none⟩, by simp, fun _ => by simp⟩⟩

theorem bx_obj {e : TypeId} {sz : Nat} {rw : List HV} {y : Value} {fx : List Nat} (h : RV Z G w (.bx e sz rw) y fx) :
    ∃ gn, (∀ G', OB Z G' w ⟨e, sz, [rw]⟩ gn fx) ∧ RV Z (G ++ [some gn]) w (.pt G.length 1 0 0) y [] := by
  simp only [RV] at h
  obtain ⟨b, cap, cells, f, rfl, rfl, h1, h2, hc1, hc2, h3, h4⟩ := h
  refine ⟨⟨some b, e, sz, 1, cap⟩, fun G' => ⟨rfl, rfl, rfl, by simpa using h3, .inr (.inl ⟨b, cells, f, rfl, rfl, h1, h2, by simpa using hc1, hc2, ?_⟩)⟩, ?_⟩
  · simp only [RR]
    exact ⟨f, [], by simp, RC.keep (fun _ _ => rfl) (fun _ h => h) (nil_GLe _) _ _ _ _ rfl (fun _ _ => rfl) h4, rfl⟩
  · simp only [RV]
    refine ⟨trivial, rfl, by simp, fun g hg => ?_⟩
    simp at hg; subst hg
    exact ⟨by simp, fun _ => ⟨b, rfl, by simp⟩⟩

/-- An owned map, as an object. -/
def mapO (x : Obj) (hs : List HV) : HObj := ⟨0, hs.length + 1, [.ob x :: hs]⟩

theorem om_obj {x : Obj} {hs : List HV} {y : Value} {fx : List Nat} (h : RV Z G w (.om x hs) y fx) :
    ∃ gn, (∀ G', OB Z G' w (mapO x hs) gn fx) ∧ RV Z (G ++ [some gn]) w (.mp G.length) y [] := by
  simp only [RV] at h
  obtain ⟨b, obj, f, rfl, rfl, h1, h2, h3⟩ := h
  refine ⟨⟨none, 0, hs.length + 1, 1, b⟩, fun G' => ⟨rfl, rfl, rfl, by simp [mapO], .inr (.inr ⟨x, hs, obj, f, rfl, rfl, rfl, h1, h2, RL.keep (fun _ _ => rfl) (fun _ h => h) (nil_GLe _) _ _ _ (fun _ _ => rfl) h3⟩)⟩, ?_⟩
  simp only [RV]
  refine ⟨trivial, rfl, by simp, fun g hg => ?_⟩
  simp at hg; subst hg
  exact ⟨by simp, fun _ _ => rfl⟩

theorem gopen_inv (hi : HInv Z G FP H w) (id r c : Nat) : ∃ G' FP', HInv Z G' FP' (gopen H id r c) w ∧ GLe G G' ∧ Evo Z FP w Z FP' w := by
  unfold gopen
  split
  · rename_i ob ho
    split
    · rename_i row hr
      split
      · rename_i e sz rows hc
        refine gopen_core hi ho hr hc (by simp) fun y fx hv => ?_
        obtain ⟨gn, h1, h2⟩ := ow_obj hv
        rw [hi.len] at h2
        exact ⟨gn, h1 _, h2⟩
      · rename_i e sz rw hc
        refine gopen_core hi ho hr hc (by simp) fun y fx hv => ?_
        obtain ⟨gn, h1, h2⟩ := bx_obj hv
        rw [hi.len] at h2
        exact ⟨gn, h1 _, h2⟩
      · rename_i x hs hc
        refine gopen_core hi ho hr hc (by simp) fun y fx hv => ?_
        obtain ⟨gn, h1, h2⟩ := om_obj hv
        rw [hi.len] at h2
        exact ⟨gn, h1 _, h2⟩
      · exact ⟨G, FP, hi, GLe.refl _, Evo.refl _ _ _⟩
    · exact ⟨G, FP, hi, GLe.refl _, Evo.refl _ _ _⟩
  · exact ⟨G, FP, hi, GLe.refl _, Evo.refl _ _ _⟩

/-- So many cells, one behind the other. -/
def gopens (H : Heap) (id r c : Nat) : Nat → Heap
  | 0 => H
  | k + 1 => gopens (gopen H id r c) id r (c + 1) k

theorem gopens_inv {id r : Nat} : ∀ (k c : Nat) (G : List (Option OG)) (FP : Nat → List Nat) (H : Heap), HInv Z G FP H w → ∃ G' FP', HInv Z G' FP' (gopens H id r c k) w ∧ GLe G G' ∧ Evo Z FP w Z FP' w
  | 0, c, G, FP, H, hi => ⟨G, FP, hi, GLe.refl _, Evo.refl _ _ _⟩
  | k + 1, c, G, FP, H, hi => by
    obtain ⟨G1, FP1, h1, h2, h3⟩ := gopen_inv hi id r c
    obtain ⟨G2, FP2, k1, k2, k3⟩ := gopens_inv k (c + 1) G1 FP1 _ h1
    exact ⟨G2, FP2, k1, h2.trans k2, h3.trans k3⟩
end
end Go.Proofs.YtcpefnjofekibaaDoor
