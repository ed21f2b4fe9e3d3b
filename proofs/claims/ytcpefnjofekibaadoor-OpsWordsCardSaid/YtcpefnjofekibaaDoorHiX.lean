/- Part X of the engine: an object moved behind the others; yields met by the run. -/
import Derived.Test.YtcpefnjofekibaaDoorHiW
namespace Go.Proofs.YtcpefnjofekibaaDoor
open Go.RowKit
set_option linter.unusedVariables false
set_option linter.unusedSimpArgs false

section
variable {P : Program} {N L : Nat} {T : Nat → HV} {H : Heap} {k : List Item → KS} {all l : List Oper} {d : Option Nat} {r : List Item}

/-- An object that a temporary points to is moved behind all others. -/
theorem Ghost.move (i n j q o : Nat) (ob : HObj) (hi : T i = .pt n j q o) (ho : H[n]? = some (some ob)) : Ghost N L T H (upd T i (.pt H.length j q o)) (H.set n none ++ [some ob]) := fun B Z G FP ds a w hL hs => by
  obtain ⟨g, hg, hob⟩ := hs.inv.live n ob ho
  have hk := hs.inv.kill n
  have hlt := hs.inv.lt ho
  have hnew := hk.new (w' := w) (o := ob) (g := g) (fp := FP n) (Nat.le_refl _) (fun _ _ => rfl) (hob.keep (fun _ _ => rfl) (fun _ h => h) ((GLe.kill n).trans (GLe.more _)) (fun _ _ => rfl)) (hs.inv.nodup n)
    (fun b hb => ⟨hs.inv.zfp n b hb, hs.inv.flt n b hb, fun j hj => by
      by_cases e : j = n
      · simp [e] at hj
      · simp only [if_neg e] at hj; exact e (hs.inv.disj j n b hj hb)⟩)
  have hG : GLe G (G.set n none ++ [some g]) := (GLe.kill n).trans (GLe.more _)
  have hE : Evo Z FP w Z (fun j => if j = (H.set n none).length then FP n else if j = n then [] else FP j) w := ⟨rfl, rfl, rfl, Nat.le_refl _, fun _ _ _ => rfl, fun _ h => h, fun _ h => .inl h, fun j b hb => by
    by_cases e : j = (H.set n none).length
    · simp only [if_pos e] at hb; exact .inr ⟨n, hb⟩
    · simp only [if_neg e] at hb
      by_cases e2 : j = n
      · simp [e2] at hb
      · simp only [if_neg e2] at hb; exact .inr ⟨j, hb⟩⟩
  have hs' := hs.evo hnew hG hE
  refine ⟨Z, _, _, ⟨hs'.inv, hs'.size, fun c hc => ?_, hs'.defers, hs'.dsn, hs'.dsat⟩, GLt.of hL hG, hE⟩
  unfold upd
  split
  · rename_i e
    subst e
    have h0 := hs.tmps c hc
    rw [hi] at h0
    simp only [RV] at h0 ⊢
    obtain ⟨h1, h2, h3, h4⟩ := h0
    refine ⟨h1, h2, by simp [hs.inv.len], fun g' hg' => ?_⟩
    rw [← hs.inv.len] at hg'
    have : g' = g := by
      rw [List.getElem?_append_right (by simp)] at hg'
      simp at hg'; exact hg'.symm
    subst this
    exact h4 g' hg
  · exact hs'.tmps c hc

/-- A call of yield, by code that has objects of its own behind the loop's owner's. -/
theorem yieldX_at {id m : Nat} {Hq own : Heap} {args : List HV} {Kb : Bool → Heap → Prop} (hm : Hq.length = m) (hid : id < m) (hnm : nmH m Hq = true) (hargs : nmL m args = true) (hy : HYield P id Hq args Kb)
    (h : ∀ b Hq', Kb b Hq' → Hq'.length = m → k (.ops all l :: r) (updO T d (.v (.bool b))) (Hq' ++ own)) : yieldX k P id (Hq ++ own) args all d l r T := by
  subst hm
  have hnm' : nmH Hq.length (Hq ++ own) = true := by
    unfold nmH at hnm ⊢
    rw [List.take_length] at hnm
    rw [List.take_left]
    exact hnm
  have hy' : HYield P id ((Hq ++ own).take Hq.length) args Kb := by rw [List.take_left]; exact hy
  refine ⟨_, HYield.frame (H := Hq ++ own) Hq.length hy' hid (by simp) hnm' hargs, ?_⟩
  rintro b H' ⟨Hc, rfl, hlen, hK⟩ _
  rw [List.drop_left]
  exact h b Hc hK hlen

/-! ### what is opened, and taken in, reckoned -/
def gopen1 (H : Heap) (id r c : Nat) (ob : HObj) (row : List HV) : Option HV → Heap
  | some (.ow e sz rows) => H.set id (some { ob with rows := ob.rows.set r (row.set c (.hd H.length 0 rows.length)) }) ++ [some ⟨e, sz, rows⟩]
  | some (.bx e sz rw) => H.set id (some { ob with rows := ob.rows.set r (row.set c (.pt H.length 1 0 0)) }) ++ [some ⟨e, sz, [rw]⟩]
  | some (.om x hs) => H.set id (some { ob with rows := ob.rows.set r (row.set c (.mp H.length)) }) ++ [some ⟨0, hs.length + 1, [.ob x :: hs]⟩]
  | _ => H
def onOb (H : Heap) (o : Option HObj) (r : Nat) (f : HObj → List HV → Heap) : Heap :=
  match o with
  | some ob => match ob.rows[r]? with
    | some row => f ob row
    | none => H
  | none => H
theorem onOb_some {ob : HObj} {r : Nat} {f : HObj → List HV → Heap} : onOb H (some ob) r f = match ob.rows[r]? with
    | some row => f ob row
    | none => H := rfl
theorem gopen_eq {id r c : Nat} : gopen H id r c = onOb H (getO H id) r fun ob row => gopen1 H id r c ob row row[c]? := by
  unfold gopen getO onOb gopen1
  repeat' split
  all_goals first | rfl | simp_all
theorem gopens_zero {id r c : Nat} : gopens H id r c 0 = H := rfl
theorem gopens_succ {id r c k : Nat} : gopens H id r c (k + 1) = gopens (gopen H id r c) id r (c + 1) k := rfl
theorem gopens_1 {id r c : Nat} : gopens H id r c 1 = gopen H id r c := rfl
theorem gopens_2 {id r c : Nat} : gopens H id r c 2 = gopen (gopen H id r c) id r (c + 1) := rfl
theorem gopens_3 {id r c : Nat} : gopens H id r c 3 = gopen (gopen (gopen H id r c) id r (c + 1)) id r (c + 1 + 1) := rfl

def absHd (H : Heap) (id r c : Nat) (ob : HObj) (row : List HV) (j len : Nat) : Option HObj → Heap
  | some oj => if j ≠ id ∧ len = oj.rows.length ∧ nmR 0 oj.rows = true then (H.set j none).set id (some { ob with rows := ob.rows.set r (row.set c (.ow oj.e oj.sz oj.rows)) }) else H
  | none => H
def absPt (H : Heap) (id r c : Nat) (ob : HObj) (row : List HV) (j : Nat) : Option HObj → Heap
  | some ⟨e, sz, [rw]⟩ => if j ≠ id ∧ nmL 0 rw = true then (H.set j none).set id (some { ob with rows := ob.rows.set r (row.set c (.bx e sz rw)) }) else H
  | _ => H
def absMp (H : Heap) (id r c : Nat) (ob : HObj) (row : List HV) (j : Nat) : Option HObj → Heap
  | some ⟨_, _, [.ob x :: hs]⟩ => if j ≠ id ∧ nmL 0 hs = true then (H.set j none).set id (some { ob with rows := ob.rows.set r (row.set c (.om x hs)) }) else H
  | _ => H
def abs1 (H : Heap) (id r c : Nat) (ob : HObj) (row : List HV) : Option HV → Heap
  | some (.hd j 0 len) => absHd H id r c ob row j len (getO H j)
  | some (.pt j 1 0 0) => absPt H id r c ob row j (getO H j)
  | some (.mp j) => absMp H id r c ob row j (getO H j)
  | _ => H
theorem absorb_eq {id r c : Nat} : absorb H id r c = onOb H (getO H id) r fun ob row => abs1 H id r c ob row row[c]? := by
  unfold absorb
  cases hH : H[id]? with
  | none => simp only [getO, hH, onOb]
  | some o =>
    cases o with
    | none => simp only [getO, hH, onOb]
    | some ob =>
      have e1 : getO H id = some ob := by simp only [getO, hH]
      simp only [e1, onOb]
      cases hr : ob.rows[r]? with
      | none => rfl
      | some row =>
        simp only
        have gg : ∀ j, getO H j = match H[j]? with | some (some ob) => some ob | _ => none := fun j => rfl
        cases hc : row[c]? with
        | none => rfl
        | some x =>
          cases x with
          | hd j off len =>
            cases off with
            | zero =>
              simp only [abs1, gg]
              cases hj : H[j]? with
              | none => rfl
              | some o => cases o <;> rfl
            | succ n => rfl
          | pt j a b c' =>
            by_cases h : a = 1 ∧ b = 0 ∧ c' = 0
            · obtain ⟨rfl, rfl, rfl⟩ := h
              simp only [abs1, gg]
              cases hj : H[j]? with
              | none => rfl
              | some o =>
                cases o with
                | none => rfl
                | some oj =>
                  obtain ⟨e, sz, rows⟩ := oj
                  cases rows with
                  | nil => rfl
                  | cons a t => cases t <;> rfl
            · rcases a with _ | _ | a
              · rfl
              · rcases b with _ | b
                · rcases c' with _ | c'
                  · exact absurd ⟨rfl, rfl, rfl⟩ h
                  · rfl
                · rfl
              · rfl
          | mp j =>
            simp only [abs1, gg]
            cases hj : H[j]? with
            | none => rfl
            | some o =>
              cases o with
              | none => rfl
              | some oj =>
                obtain ⟨e, sz, rows⟩ := oj
                cases rows with
                | nil => rfl
                | cons a t =>
                  cases a with
                  | nil => cases t <;> rfl
                  | cons x a => cases x <;> cases t <;> rfl
          | _ => rfl

/-- Of a cell, or of a temporary, something else is said. -/
def Conv (x h : HV) : Prop := ∀ (Z : Nat → Prop) (G : List (Option OG)) (w : World) (y : Value), RV Z G w x y [] → RV Z G w h y []
theorem Conv.nilOw (e : TypeId) (sz : Nat) : Conv (.v (.slice none 0 0)) (.ow e sz []) := fun Z G w y h => by
  simp only [RV] at h ⊢
  exact .inl ⟨trivial, h.2, trivial⟩
theorem Conv.nilSl : Conv (.v (.slice none 0 0)) (.sl []) := fun Z G w y h => by
  simp only [RV] at h ⊢
  exact ⟨trivial, none, 0, h.2, Nat.le_refl _, by simp [maxLen], .inl trivial⟩
theorem Conv.any (x : HV) : Conv x .any := fun Z G w y h => by simp [RV]

theorem Ghost.cell (id i c : Nat) (h' : HV) {ob : HObj} {row : List HV} {x : HV} (ho : H[id]? = some (some ob)) (hr : ob.rows[i]? = some row) (hc : row[c]? = some x) (htv : tv x = true) (hx : Conv x h') (hnb : ∀ u, x ≠ .ob u) :
    Ghost N L T H T (H.set id (some { ob with rows := ob.rows.set i (row.set c h') })) := fun B Z G FP ds a w hL hs => by
  obtain ⟨g, hg, hob⟩ := hs.inv.live id ob ho
  obtain ⟨y, fx, fa, hv, hperm, hsw⟩ := hob.swap hr hc hnb
  have hfx : fx = [] := RV_tv x y fx htv hv
  subst hfx
  simp only [List.nil_append] at hperm
  obtain ⟨fp', hob', hp'⟩ := hsw G h' [] (GLe.refl _) (hx Z G w y hv)
  simp only [List.nil_append] at hp'
  have hpp := hp'.trans hperm.symm
  have hi := hs.inv.say ho hg hob' (hpp.nodup_iff.2 (hs.inv.nodup id)) (fun b hb => by
    have hb' := hpp.mem_iff.1 hb
    exact ⟨hs.inv.zfp id b hb', hs.inv.flt id b hb', fun j hj hc => hj (hs.inv.disj j id b hc hb')⟩)
  have hE : Evo Z FP w Z (fun j => if j = id then fp' else FP j) w := ⟨rfl, rfl, rfl, Nat.le_refl _, fun _ _ _ => rfl, fun _ h => h, fun _ h => .inl h, fun j b hb => by
    by_cases e : j = id
    · simp only [if_pos e] at hb; exact .inr ⟨id, hpp.mem_iff.1 hb⟩
    · simp only [if_neg e] at hb; exact .inr ⟨j, hb⟩⟩
  exact ⟨Z, G, _, hs.evo hi (GLe.refl _) hE, GLt.refl hL, hE⟩

theorem Ghost.tmp (i : Nat) (h' : HV) (hx : Conv (T i) h') : Ghost N L T H (upd T i h') H := fun B Z G FP ds a w hL hs => by
  refine ⟨Z, G, FP, ⟨hs.inv, hs.size, fun j hj => ?_, hs.defers, hs.dsn, hs.dsat⟩, GLt.refl hL, Evo.refl _ _ _⟩
  unfold upd
  split
  · rename_i e; subst e; exact hx _ _ _ _ (hs.tmps j hj)
  · exact hs.tmps j hj

/-- Of what a call gives something else is said. -/
theorem HCalls.conv {f : FuncId} {args : List HV} {Q Q' : HV → Heap → Prop} (h : HCalls P f H args Q) (hq : ∀ x H', Q x H' → ∃ x', Q' x' H' ∧ (x' = x ∨ (tv x = true ∧ Conv x x'))) : HCalls P f H args Q' := by
  refine ⟨h.1, fun Z G FP w vals hi ha => Calls.mono (h.2 Z G FP w vals hi ha) ?_⟩
  rintro e w' ⟨v, x, H', Z', G', FP', fr, he, hQ, hlen, hi', hr, hnd, hf1, hf2, hG, hE⟩
  obtain ⟨x', hQ', hx⟩ := hq x H' hQ
  rcases hx with rfl | ⟨htv, hc⟩
  · exact ⟨v, x', H', Z', G', FP', fr, he, hQ', hlen, hi', hr, hnd, hf1, hf2, hG, hE⟩
  · have := RV_tv x v fr htv hr
    subst this
    exact ⟨v, x', H', Z', G', FP', [], he, hQ', hlen, hi', hc _ _ _ _ hr, hnd, hf1, hf2, hG, hE⟩

theorem exCall_yl {id : Nat} {args : List HV} : exCall k P (.yl id) H args all d l r T = yieldX k P id H args all d l r T := rfl
theorem rsure_yl {id : Nat} : rsure H (.yl id) = none := rfl
theorem fz_yl {id : Nat} {n : Nat} : fz (n + 1) H (.yl id) = .any := rfl
theorem fz_mp {id : Nat} {n : Nat} : fz (n + 1) H (.mp id) = .any := rfl
theorem c1_yl {id : Nat} : c1 (.yl id) = true := rfl
theorem c1_mp {id : Nat} : c1 (.mp id) = true := rfl
theorem setPs_cons {p : Nat} {ps : List Nat} {h : HV} {hs : List HV} : setPs T (p :: ps) (h :: hs) = setPs (upd T p h) ps hs := rfl
theorem setPs_nil {hs : List HV} : setPs T [] hs = T := rfl
theorem tvT_at {i : Nat} : tvT T i = if tv (T i) = true then T i else .any := rfl

/-- Objects of one's own, behind others. -/
theorem getO_behind {A B : Heap} {m i : Nat} (h : A.length = m) : getO (A ++ B) (m + i) = getO B i := by
  subst h
  unfold getO
  rw [List.getElem?_append_right (by omega)]
  simp
theorem getO_behind0 {A B : Heap} {m : Nat} (h : A.length = m) : getO (A ++ B) m = getO B 0 := getO_behind (i := 0) h
theorem set_behind {A B : Heap} {m i : Nat} {x : Option HObj} (h : A.length = m) : (A ++ B).set (m + i) x = A ++ B.set i x := by
  subst h
  rw [List.set_append_right _ _ (by omega)]
  simp
theorem set_behind0 {A B : Heap} {m : Nat} {x : Option HObj} (h : A.length = m) : (A ++ B).set m x = A ++ B.set 0 x := set_behind (i := 0) h
theorem take_behind {A B : Heap} {m : Nat} (h : A.length = m) : (A ++ B).take m = A := by subst h; simp
end
/-- Some objects of the others'; those that are not, are dead. -/
def SubH : Heap → Heap → Prop
  | [], [] => True
  | none :: a, _ :: b => SubH a b
  | some o :: a, x :: b => x = some o ∧ SubH a b
  | _, _ => False
theorem SubH.spec : ∀ {H0 H : Heap}, SubH H0 H → H0.length = H.length ∧ ∀ (j : Nat) (o : HObj), H0[j]? = some (some o) → H[j]? = some (some o)
  | [], [], _ => ⟨rfl, fun _ _ h => h⟩
  | none :: a, x :: b, h => by
    obtain ⟨h1, h2⟩ := SubH.spec (H0 := a) (H := b) h
    refine ⟨by simp [h1], fun j o hj => ?_⟩
    cases j with
    | zero => simp at hj
    | succ j => exact h2 j o hj
  | some o :: a, x :: b, h => by
    obtain ⟨h1, h2⟩ := SubH.spec (H0 := a) (H := b) h.2
    refine ⟨by simp [h1], fun j o' hj => ?_⟩
    cases j with
    | zero => simp at hj; subst hj; simp [h.1]
    | succ j => exact h2 j o' hj
  | none :: a, [], h => h.elim
  | some o :: a, [], h => h.elim
  | [], x :: b, h => h.elim
theorem RQ_normal {N L : Nat} {I : Heap → Prop} {X : Code → Heap → Prop} {T : Nat → HV} {H : Heap} : RQ N L I X .normal T H = GQ N L (fun _ H => H.length = L ∧ I H) T H := rfl
theorem RQ_ret {N L : Nat} {I : Heap → Prop} {X : Code → Heap → Prop} {T : Nat → HV} {H : Heap} : RQ N L I X .ret T H = GQ N L (fun _ H => H.length = L ∧ X .ret H) T H := rfl
theorem RQ_exit {N L i : Nat} {I : Heap → Prop} {X : Code → Heap → Prop} {T : Nat → HV} {H : Heap} : RQ N L I X (.exit i) T H = GQ N L (fun _ H => H.length = L ∧ X (.exit i) H) T H := rfl
theorem RQ_goto {N L i : Nat} {I : Heap → Prop} {X : Code → Heap → Prop} {T : Nat → HV} {H : Heap} : RQ N L I X (.goto i) T H = GQ N L (fun _ H => H.length = L ∧ X (.goto i) H) T H := rfl
theorem endP_behind {L : Nat} {Q : HV → Heap → Prop} {x : HV} {A B : Heap} (hl : A.length = L) (hn : nmH L A = true) (hq : Q x A) : endP L Q (x, A ++ B) := by
  subst hl
  refine ⟨?_, by simpa using hq⟩
  unfold nmH at hn ⊢
  rw [List.take_length] at hn
  simpa using hn
theorem nameL_nil {H : Heap} : nameL [] H = ([], H) := rfl
attribute [go_sem] absorb_eq abs1 absHd absPt absMp gopen_eq gopens_zero gopens_1 gopens_2 gopens_3 onOb_some gopen1
attribute [go_sem] exCall_yl c1_yl c1_mp fz_yl fz_mp setPs_cons setPs_nil tvT_at
attribute [go_sem ↓] RQ_normal RQ_ret RQ_exit RQ_goto
end Go.Proofs.YtcpefnjofekibaaDoor
