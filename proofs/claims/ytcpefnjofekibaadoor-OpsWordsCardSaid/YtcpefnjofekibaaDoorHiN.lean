/- Part N of the engine: arguments lent: the callee sees them as memory that nobody writes. -/
import Derived.Test.YtcpefnjofekibaaDoorHiM
namespace Go.Proofs.YtcpefnjofekibaaDoor
open Go.RowKit
set_option linter.unusedVariables false
set_option linter.unusedSimpArgs false

mutual
/-- What is owned, as memory that nobody writes; names are forgotten. -/
def fzo : HV → HV
  | .ow e sz rows => .sl (fzoR rows)
  | .bx e sz row => .fp [fzoL row] 0 0
  | .hd .. => .any
  | .pt .. => .any
  | .ag cs => .ag (fzoL cs)
  | .tu cs => .tu (fzoL cs)
  | .fn f cs => .fn f (fzoL cs)
  | .ic t x => .ic t (fzo x)
  | .ob _ => .any
  | .mp _ => .any
  | .om .. => .any
  | .yl _ => .any
  | x => x
def fzoL : List HV → List HV
  | [] => []
  | h :: t => fzo h :: fzoL t
def fzoR : List (List HV) → List (List HV)
  | [] => []
  | r :: t => fzoL r :: fzoR t
end

theorem fzoL_length : ∀ l : List HV, (fzoL l).length = l.length
  | [] => rfl
  | h :: t => by simp [fzoL, fzoL_length t]
theorem fzoR_length : ∀ l : List (List HV), (fzoR l).length = l.length
  | [] => rfl
  | h :: t => by simp [fzoR, fzoR_length t]
theorem fzoR_get : ∀ (l : List (List HV)), fzoR l = l.map fzoL
  | [] => rfl
  | h :: t => by simp [fzoR, fzoR_get t]
theorem fzoL_map : ∀ (l : List HV), fzoL l = l.map fzo
  | [] => rfl
  | h :: t => by simp [fzoL, fzoL_map t]

/-- What an argument is to the callee, names and all; so deep. -/
def fz : Nat → Heap → HV → HV
  | 0, _, x => fzo x
  | n + 1, H, .hd id off len =>
    match H[id]? with
    | some (some ob) => if off + len = ob.rows.length then .sl ((ob.rows.drop off).map fun r => r.map (fz n H)) else .any
    | _ => .any
  | n + 1, H, .pt id k r o =>
    match H[id]? with
    | some (some ob) => if k = ob.rows.length ∧ ob.rows.length ≠ 0 then .fp (ob.rows.map fun r => r.map (fz n H)) r o else .any
    | _ => .any
  | n + 1, H, .ag cs => .ag (cs.map (fz n H))
  | n + 1, H, .tu cs => .tu (cs.map (fz n H))
  | n + 1, H, .fn f cs => .fn f (cs.map (fz n H))
  | n + 1, H, .ic t x => .ic t (fz n H x)
  | _ + 1, _, x => fzo x

section
variable {Z : Nat → Prop} {w : World}

theorem uni_len {sz : Nat} {rows : List (List HV)} (h : ∀ r ∈ rows, r.length = sz) : Uni rows := by
  intro r hr
  rw [h r hr, rowLen_of h (by intro e; subst e; simp at hr)]

/-- Every block of fr may be lent. -/
def Lent (Z Z' : Nat → Prop) (fr : List Nat) : Prop := (∀ b, Z b → Z' b) ∧ ∀ b ∈ fr, Z' b

mutual
theorem fzo_spec {Z' : Nat → Prop} : ∀ (h : HV) (G : List (Option OG)) (y : Value) (fr : List Nat), Lent Z Z' fr → RV Z G w h y fr → RV Z' [] w (fzo h) y []
  | .any, G, y, fr, hl, hr => by simp [fzo, RV]
  | .v x, G, y, fr, hl, hr => by simp only [RV] at hr; simp [fzo, RV, hr.2]
  | .sl rows, G, y, fr, hl, hr => by
    have := RV_tv _ y fr rfl hr; subst this
    have := RV.keep (Z' := Z') (G' := G) (fun _ _ => rfl) hl.1 (GLe.refl _) _ _ _ (fun _ _ => rfl) hr
    simpa only [fzo, RV] using this
  | .fp rows i o, G, y, fr, hl, hr => by
    have := RV_tv _ y fr rfl hr; subst this
    have := RV.keep (Z' := Z') (G' := G) (fun _ _ => rfl) hl.1 (GLe.refl _) _ _ _ (fun _ _ => rfl) hr
    simpa only [fzo, RV] using this
  | .hd .., G, y, fr, hl, hr => by simp [fzo, RV]
  | .pt .., G, y, fr, hl, hr => by simp [fzo, RV]
  | .ob _, G, y, fr, hl, hr => by simp [fzo, RV]
  | .mp _, G, y, fr, hl, hr => by simp [fzo, RV]
  | .om .., G, y, fr, hl, hr => by simp [fzo, RV]
  | .yl _, G, y, fr, hl, hr => by simp [fzo, RV]
  | .ow e sz rows, G, y, fr, hl, hr => by
    simp only [RV] at hr
    simp only [fzo, RV]
    rcases hr with ⟨rfl, rfl, rfl⟩ | ⟨b, cap, cells, f, rfl, rfl, h1, h2, h3, h4, h5, h6⟩
    · exact ⟨trivial, none, 0, rfl, by simp [fzoR], by simp [maxLen], .inl rfl⟩
    · refine ⟨trivial, _, cap, by rw [fzoR_length], by rw [fzoR_length]; exact h3, h4, .inr ⟨b, 0, rfl, hl.2 b (by simp), ?_, fzoR_spec rows [] b 0 f ⟨hl.1, fun z hz => hl.2 z (by simp [hz])⟩ h6⟩⟩
      refine uni_len (sz := sz) fun r hr => ?_
      rw [fzoR_get] at hr
      obtain ⟨r', hr', rfl⟩ := List.mem_map.1 hr
      rw [fzoL_length]; exact h5 r' hr'
  | .bx e sz row, G, y, fr, hl, hr => by
    simp only [RV] at hr
    simp only [fzo, RV]
    obtain ⟨b, cap, cells, f, rfl, rfl, h1, h2, hc1, hc2, h3, h4⟩ := hr
    refine ⟨trivial, b, 0, by simp, hl.2 b (by simp), uni_len (sz := row.length) (by simp [fzoL_length]), ?_⟩
    simp only [RR]
    exact ⟨[], [], rfl, fzoC_spec row [] b 0 f ⟨hl.1, fun z hz => hl.2 z (by simp [hz])⟩ h4, rfl⟩
  | .ag cs, G, y, fr, hl, hr => by
    simp only [RV] at hr
    obtain ⟨ys, rfl, h⟩ := hr
    simp only [fzo, RV]
    exact ⟨ys, rfl, fzoL_spec cs G _ fr hl h⟩
  | .tu cs, G, y, fr, hl, hr => by
    simp only [RV] at hr
    obtain ⟨ys, rfl, h⟩ := hr
    simp only [fzo, RV]
    exact ⟨ys, rfl, fzoL_spec cs G _ fr hl h⟩
  | .fn f cs, G, y, fr, hl, hr => by
    simp only [RV] at hr
    obtain ⟨ys, rfl, h⟩ := hr
    simp only [fzo, RV]
    exact ⟨ys, rfl, fzoL_spec cs G _ fr hl h⟩
  | .ic t x, G, y, fr, hl, hr => by
    simp only [RV] at hr
    obtain ⟨rfl, z, rfl, h⟩ := hr
    simp only [fzo, RV]
    exact ⟨trivial, z, rfl, fzo_spec x G z [] hl h⟩
theorem fzoL_spec {Z' : Nat → Prop} : ∀ (l : List HV) (G : List (Option OG)) (ys : List Value) (fr : List Nat), Lent Z Z' fr → RL Z G w l ys fr → RL Z' [] w (fzoL l) ys []
  | [], G, ys, fr, hl, hr => by simp only [RL] at hr; simp [fzoL, RL, hr.1]
  | h :: t, G, ys, fr, hl, hr => by
    simp only [RL] at hr
    obtain ⟨y, ys', f1, f2, rfl, rfl, h1, h2⟩ := hr
    simp only [fzoL, RL]
    exact ⟨y, ys', [], [], rfl, rfl, fzo_spec h G y f1 ⟨hl.1, fun b hb => hl.2 b (by simp [hb])⟩ h1, fzoL_spec t G ys' f2 ⟨hl.1, fun b hb => hl.2 b (by simp [hb])⟩ h2⟩
theorem fzoC_spec {Z' : Nat → Prop} : ∀ (l : List HV) (G : List (Option OG)) (b k : Nat) (fr : List Nat), Lent Z Z' fr → RC Z G w l b k fr → RC Z' [] w (fzoL l) b k []
  | [], G, b, k, fr, hl, hr => by simp [fzoL, RC]
  | h :: t, G, b, k, fr, hl, hr => by
    simp only [RC] at hr
    obtain ⟨y, f1, f2, rfl, h1, h2, h3, h4⟩ := hr
    simp only [fzoL, RC]
    exact ⟨y, [], [], rfl, h1, h2, fzo_spec h G y f1 ⟨hl.1, fun b hb => hl.2 b (by simp [hb])⟩ h3, fzoC_spec t G b (k + 1) f2 ⟨hl.1, fun b hb => hl.2 b (by simp [hb])⟩ h4⟩
theorem fzoR_spec {Z' : Nat → Prop} : ∀ (l : List (List HV)) (G : List (Option OG)) (b k : Nat) (fr : List Nat), Lent Z Z' fr → RR Z G w l b k fr → RR Z' [] w (fzoR l) b k []
  | [], G, b, k, fr, hl, hr => by simp [fzoR, RR]
  | r :: t, G, b, k, fr, hl, hr => by
    simp only [RR] at hr
    obtain ⟨f1, f2, rfl, h1, h2⟩ := hr
    simp only [fzoR, RR]
    rw [fzoL_length]
    exact ⟨[], [], rfl, fzoC_spec r G b k f1 ⟨hl.1, fun b hb => hl.2 b (by simp [hb])⟩ h1, fzoR_spec t G b (k + r.length) f2 ⟨hl.1, fun b hb => hl.2 b (by simp [hb])⟩ h2⟩
end

/-- What is lent: what is shut, and what objects own. -/
def Zall (Z : Nat → Prop) (FP : Nat → List Nat) : Nat → Prop := fun b => Z b ∨ ∃ id, b ∈ FP id

theorem RL_mapf {f : HV → HV} {Z' : Nat → Prop} {G : List (Option OG)} {fr : List Nat} (hf : ∀ (h : HV) (y : Value) (g : List Nat), (∀ b ∈ g, b ∈ fr) → RV Z G w h y g → RV Z' [] w (f h) y []) : ∀ (l : List HV) (ys : List Value) (g : List Nat), (∀ b ∈ g, b ∈ fr) → RL Z G w l ys g → RL Z' [] w (l.map f) ys []
  | [], ys, g, hg, h => by simp only [RL] at h; simp [RL, h.1]
  | h :: t, ys, g, hg, hr => by
    simp only [RL] at hr
    obtain ⟨y, ys', f1, f2, rfl, rfl, h1, h2⟩ := hr
    simp only [List.map_cons, RL]
    exact ⟨y, ys', [], [], rfl, rfl, hf h y f1 (fun b hb => hg b (by simp [hb])) h1, RL_mapf hf t ys' f2 (fun b hb => hg b (by simp [hb])) h2⟩
theorem RC_mapf {f : HV → HV} {Z' : Nat → Prop} {G : List (Option OG)} {fr : List Nat} (hf : ∀ (h : HV) (y : Value) (g : List Nat), (∀ b ∈ g, b ∈ fr) → RV Z G w h y g → RV Z' [] w (f h) y []) : ∀ (l : List HV) (b k : Nat) (g : List Nat), (∀ b ∈ g, b ∈ fr) → RC Z G w l b k g → RC Z' [] w (l.map f) b k []
  | [], b, k, g, hg, h => by simp [RC]
  | h :: t, b, k, g, hg, hr => by
    simp only [RC] at hr
    obtain ⟨y, f1, f2, rfl, h1, h2, h3, h4⟩ := hr
    simp only [List.map_cons, RC]
    exact ⟨y, [], [], rfl, h1, h2, hf h y f1 (fun b hb => hg b (by simp [hb])) h3, RC_mapf hf t b (k + 1) f2 (fun b hb => hg b (by simp [hb])) h4⟩
theorem RR_mapf {f : HV → HV} {Z' : Nat → Prop} {G : List (Option OG)} {fr : List Nat} (hf : ∀ (h : HV) (y : Value) (g : List Nat), (∀ b ∈ g, b ∈ fr) → RV Z G w h y g → RV Z' [] w (f h) y []) : ∀ (l : List (List HV)) (b k : Nat) (g : List Nat), (∀ b ∈ g, b ∈ fr) → RR Z G w l b k g → RR Z' [] w (l.map fun r => r.map f) b k []
  | [], b, k, g, hg, h => by simp [RR]
  | r :: t, b, k, g, hg, hr => by
    simp only [RR] at hr
    obtain ⟨f1, f2, rfl, h1, h2⟩ := hr
    simp only [List.map_cons, RR, List.length_map]
    exact ⟨[], [], rfl, RC_mapf hf r b k f1 (fun b hb => hg b (by simp [hb])) h1, RR_mapf hf t b (k + r.length) f2 (fun b hb => hg b (by simp [hb])) h2⟩

theorem fz_spec {G : List (Option OG)} {FP : Nat → List Nat} {H : Heap} (hi : HInv Z G FP H w) : ∀ (n : Nat) (h : HV) (y : Value) (g : List Nat), (∀ b ∈ g, Zall Z FP b) → RV Z G w h y g → RV (Zall Z FP) [] w (fz n H h) y []
  | 0, h, y, g, hg, hr => by unfold fz; exact fzo_spec h G y g ⟨fun b hb => .inl hb, hg⟩ hr
  | n + 1, h, y, g, hg, hr => by
    have other : fz (n + 1) H h = fzo h → RV (Zall Z FP) [] w (fz (n + 1) H h) y [] := fun e => by
      rw [e]; exact fzo_spec h G y g ⟨fun b hb => .inl hb, hg⟩ hr
    have ih := fz_spec hi n
    cases h with
    | hd id off len =>
      have := RV_tv _ y g rfl hr; subst this
      simp only [fz]
      split
      · rename_i ob ho
        split
        · rename_i hn
          obtain ⟨og, hgo, hOB, hview⟩ := hd_at hi ho hn hr
          simp only [RV]
          have hlen : ((ob.rows.drop off).map fun r => r.map (fz n H)).length = len := by simp; omega
          unfold View at hview
          split at hview
          · rename_i hbn
            obtain ⟨hview, hv1, hv2⟩ := hview
            have hrr : ob.rows = [] := by
              rcases hOB.at_ with ⟨_, e1, _⟩ | ⟨b, cells, f, e1, _⟩ | ⟨u3, hs3, obj3, f3, e1, e3, _⟩
              · exact e1
              · rw [hbn] at e1; cases e1
              · have := congrArg List.length e3; simp only [List.length_cons, List.length_nil] at this; omega
            have : len = 0 := by rw [hrr] at hn; simp at hn; omega
            subst this
            exact ⟨trivial, none, 0, by rw [hlen]; exact hview, by rw [hlen]; omega, by simp [maxLen], .inl (List.eq_nil_of_length_eq_zero hlen)⟩
          · rename_i b hb
            obtain ⟨ad, hy, hA⟩ := hview
            obtain ⟨b', cells, f, e1, e2, e3, e4, e5, e6, e7⟩ := hOB.cells_ hb
            rw [hb] at e1; cases e1
            refine ⟨trivial, some ad, og.cap - off, by rw [hlen]; exact hy, by rw [hlen]; omega, by omega, ?_⟩
            by_cases h0 : len = 0
            · exact .inl (List.eq_nil_of_length_eq_zero (by omega))
            · refine .inr ⟨b, off * ob.sz, by rw [hA (.inl h0), hOB.sz], .inr ⟨id, by rw [e2]; simp⟩, ?_, ?_⟩
              · refine uni_len (sz := ob.sz) fun r hr => ?_
                obtain ⟨r', hr', rfl⟩ := List.mem_map.1 hr
                rw [List.length_map]; exact hOB.len r' (List.mem_of_mem_drop hr')
              · obtain ⟨f', h1, h2⟩ := RR_drop ob.rows 0 off f hOB.len e7
                rw [Nat.zero_add] at h1
                exact RR_mapf (fr := f) (fun h y g hg hr => ih h y g (fun b hb => .inr ⟨id, by rw [e2]; simp [hg b hb]⟩) hr) _ _ _ _ (fun b hb => h2.subset hb) h1
        · simp [RV]
      · simp [RV]
    | pt id k r o =>
      have := RV_tv _ y g rfl hr; subst this
      simp only [fz]
      split
      · rename_i ob ho
        split
        · rename_i hn
          obtain ⟨og, hgo, hOB⟩ := hi.live id ob ho
          simp only [RV] at hr
          obtain ⟨_, _, _, hr⟩ := hr
          obtain ⟨b, hb, rfl⟩ := (hr og hgo).2 (by rw [hn.1, hOB.n])
          obtain ⟨b', cells, f, e1, e2, e3, e4, e5, e6, e7⟩ := hOB.cells_ hb
          rw [hb] at e1; cases e1
          simp only [RV]
          have hall : ∀ r ∈ ob.rows.map (fun r => r.map (fz n H)), r.length = ob.sz := fun r hr => by
            obtain ⟨r', hr', rfl⟩ := List.mem_map.1 hr
            rw [List.length_map]; exact hOB.len r' hr'
          refine ⟨trivial, b, 0, ?_, .inr ⟨id, by rw [e2]; simp⟩, uni_len hall, ?_⟩
          · rw [rowLen_of hall (by intro e; have := congrArg List.length e; simp at this; rw [this] at hn; simp at hn), hOB.sz, Nat.zero_add]
          · exact RR_mapf (fr := f) (fun h y g hg hr => ih h y g (fun b hb => .inr ⟨id, by rw [e2]; simp [hg b hb]⟩) hr) _ _ _ _ (fun b hb => hb) e7
        · simp [RV]
      · simp [RV]
    | ag cs =>
      simp only [RV] at hr
      obtain ⟨ys, rfl, h⟩ := hr
      simp only [fz, RV]
      exact ⟨ys, rfl, RL_mapf (fr := g) (fun h y g' hg' hr => ih h y g' (fun b hb => hg b (hg' b hb)) hr) _ _ _ (fun b hb => hb) h⟩
    | tu cs =>
      simp only [RV] at hr
      obtain ⟨ys, rfl, h⟩ := hr
      simp only [fz, RV]
      exact ⟨ys, rfl, RL_mapf (fr := g) (fun h y g' hg' hr => ih h y g' (fun b hb => hg b (hg' b hb)) hr) _ _ _ (fun b hb => hb) h⟩
    | fn f cs =>
      simp only [RV] at hr
      obtain ⟨ys, rfl, h⟩ := hr
      simp only [fz, RV]
      exact ⟨ys, rfl, RL_mapf (fr := g) (fun h y g' hg' hr => ih h y g' (fun b hb => hg b (hg' b hb)) hr) _ _ _ (fun b hb => hb) h⟩
    | ic t x =>
      simp only [RV] at hr
      obtain ⟨rfl, z, rfl, h⟩ := hr
      simp only [fz, RV]
      exact ⟨trivial, z, rfl, ih x z [] hg h⟩
    | any => exact other rfl
    | v x => exact other rfl
    | sl rows => exact other rfl
    | ow e sz rows => exact other rfl
    | bx e sz row => exact other rfl
    | fp rows i o => exact other rfl
    | ob x => exact other rfl
    | mp i => exact other rfl
    | om x hs => exact other rfl
    | yl i => exact other rfl

mutual
/-- It says nothing of what is shut, and names nothing. -/
def nz : HV → Bool
  | .any => true
  | .v _ => true
  | .ow _ _ rows => nzR rows
  | .bx _ _ row => nzL row
  | .ag cs => nzL cs
  | .tu cs => nzL cs
  | .fn _ cs => nzL cs
  | .ic _ x => nz x
  | .om _ hs => nzL hs
  | _ => false
def nzL : List HV → Bool
  | [] => true
  | h :: t => nz h && nzL t
def nzR : List (List HV) → Bool
  | [] => true
  | r :: t => nzL r && nzR t
end

mutual
theorem nz_spec {Z' : Nat → Prop} : ∀ (h : HV) (G G' : List (Option OG)) (y : Value) (fr : List Nat), nz h = true → RV Z G w h y fr → RV Z' G' w h y fr
  | .any, G, G', y, fr, hn, hr => by simpa only [RV] using hr
  | .v x, G, G', y, fr, hn, hr => by simpa only [RV] using hr
  | .sl rows, G, G', y, fr, hn, hr => by simp [nz] at hn
  | .fp .., G, G', y, fr, hn, hr => by simp [nz] at hn
  | .hd .., G, G', y, fr, hn, hr => by simp [nz] at hn
  | .pt .., G, G', y, fr, hn, hr => by simp [nz] at hn
  | .ob _, G, G', y, fr, hn, hr => by simp [nz] at hn
  | .mp _, G, G', y, fr, hn, hr => by simp [nz] at hn
  | .yl _, G, G', y, fr, hn, hr => by simp [nz] at hn
  | .om x hs, G, G', y, fr, hn, hr => by
    simp only [RV] at hr ⊢
    obtain ⟨b, obj, f, h1, h2, h3, h4, h5⟩ := hr
    exact ⟨b, obj, f, h1, h2, h3, h4, nzL_spec hs [] [] _ f (by simpa [nz] using hn) h5⟩
  | .ow e sz rows, G, G', y, fr, hn, hr => by
    simp only [RV] at hr ⊢
    refine hr.imp id ?_
    rintro ⟨b, cap, cells, f, h1, h2, h3, h4, h5, h6, h7, h8⟩
    exact ⟨b, cap, cells, f, h1, h2, h3, h4, h5, h6, h7, nzR_spec rows [] [] b 0 f (by simpa [nz] using hn) h8⟩
  | .bx e sz row, G, G', y, fr, hn, hr => by
    simp only [RV] at hr ⊢
    obtain ⟨b, cap, cells, f, h1, h2, h3, h4, h7, h8, h5, h6⟩ := hr
    exact ⟨b, cap, cells, f, h1, h2, h3, h4, h7, h8, h5, nzC_spec row [] [] b 0 f (by simpa [nz] using hn) h6⟩
  | .ag cs, G, G', y, fr, hn, hr => by
    simp only [RV] at hr ⊢
    obtain ⟨ys, h1, h2⟩ := hr
    exact ⟨ys, h1, nzL_spec cs G G' _ fr (by simpa [nz] using hn) h2⟩
  | .tu cs, G, G', y, fr, hn, hr => by
    simp only [RV] at hr ⊢
    obtain ⟨ys, h1, h2⟩ := hr
    exact ⟨ys, h1, nzL_spec cs G G' _ fr (by simpa [nz] using hn) h2⟩
  | .fn f cs, G, G', y, fr, hn, hr => by
    simp only [RV] at hr ⊢
    obtain ⟨ys, h1, h2⟩ := hr
    exact ⟨ys, h1, nzL_spec cs G G' _ fr (by simpa [nz] using hn) h2⟩
  | .ic t x, G, G', y, fr, hn, hr => by
    simp only [RV] at hr ⊢
    obtain ⟨h0, z, h1, h2⟩ := hr
    exact ⟨h0, z, h1, nz_spec x G G' z [] (by simpa [nz] using hn) h2⟩
theorem nzL_spec {Z' : Nat → Prop} : ∀ (l : List HV) (G G' : List (Option OG)) (ys : List Value) (fr : List Nat), nzL l = true → RL Z G w l ys fr → RL Z' G' w l ys fr
  | [], G, G', ys, fr, hn, hr => by simpa only [RL] using hr
  | h :: t, G, G', ys, fr, hn, hr => by
    simp only [nzL, Bool.and_eq_true] at hn
    simp only [RL] at hr ⊢
    obtain ⟨y, ys', f1, f2, h1, h2, h3, h4⟩ := hr
    exact ⟨y, ys', f1, f2, h1, h2, nz_spec h G G' y f1 hn.1 h3, nzL_spec t G G' ys' f2 hn.2 h4⟩
theorem nzC_spec {Z' : Nat → Prop} : ∀ (l : List HV) (G G' : List (Option OG)) (b k : Nat) (fr : List Nat), nzL l = true → RC Z G w l b k fr → RC Z' G' w l b k fr
  | [], G, G', b, k, fr, hn, hr => by simpa only [RC] using hr
  | h :: t, G, G', b, k, fr, hn, hr => by
    simp only [nzL, Bool.and_eq_true] at hn
    simp only [RC] at hr ⊢
    obtain ⟨y, f1, f2, h1, h2, h3, h4, h5⟩ := hr
    exact ⟨y, f1, f2, h1, h2, h3, nz_spec h G G' y f1 hn.1 h4, nzC_spec t G G' b (k + 1) f2 hn.2 h5⟩
theorem nzR_spec {Z' : Nat → Prop} : ∀ (l : List (List HV)) (G G' : List (Option OG)) (b k : Nat) (fr : List Nat), nzR l = true → RR Z G w l b k fr → RR Z' G' w l b k fr
  | [], G, G', b, k, fr, hn, hr => by simpa only [RR] using hr
  | r :: t, G, G', b, k, fr, hn, hr => by
    simp only [nzR, Bool.and_eq_true] at hn
    simp only [RR] at hr ⊢
    obtain ⟨f1, f2, h1, h2, h3⟩ := hr
    exact ⟨f1, f2, h1, nzC_spec r G G' b k f1 hn.1 h2, nzR_spec t G G' b (k + r.length) f2 hn.2 h3⟩
end
end

section
variable {P : Program} {H : Heap}

theorem HInv.empty {Z : Nat → Prop} {w : World} (hz : ∀ b, Z b → b < w.heap.size) (hg : Globs Z w) : HInv Z [] (fun _ => []) [] w :=
  ⟨rfl, by simp, by simp, by simp, by simp, by simp, hz, by simp, by simp, hg⟩

/-- Arguments are lent; what comes back holds nothing of them. -/
theorem HCalls.lend {f : FuncId} {args : List HV} {Q : HV → Heap → Prop} (n : Nat) (h : HCalls P f [] (args.map (fz n H)) Q) (hq : ∀ r, Q r [] → nz r = true) : HCalls P f H args (fun r H' => Q r [] ∧ H' = H) := by
  refine ⟨h.1, fun Z G FP w vals hi ha => ?_⟩
  have hzlt : ∀ b, Zall Z FP b → b < w.heap.size := by
    rintro b (hb | ⟨id, hb⟩)
    · exact hi.zlt b hb
    · exact hi.flt id b hb
  have ha' : RL (Zall Z FP) [] w (args.map (fz n H)) vals [] := RL_mapf (fr := []) (fun h y g hg hr => fz_spec hi n h y g (fun b hb => by have := hg b hb; simp at this) hr) _ _ _ (by simp) ha
  refine Calls.mono (h.2 _ [] _ w vals (HInv.empty hzlt (hi.glob.keep (fun b hb => .inl hb) (fun _ _ => rfl))) ha') ?_
  rintro e w' ⟨v, r, H', Z', G', FP', fr, rfl, hQ, hlen, hi', hr, hnd, hfr1, hfr2, hG, hE⟩
  have hH' : H' = [] := List.eq_nil_of_length_eq_zero hlen
  subst hH'
  have hk : ∀ b, b < w.heap.size → w'.heap[b]? = w.heap[b]? := fun b hb => hE.keep b hb (by simp)
  refine ⟨v, r, H, Z, G, FP, fr, rfl, ⟨hQ, rfl⟩, rfl, hi.keep hE.size (fun b hb => hk b (hzlt b hb)), nz_spec r _ _ v fr (hq r hQ) hr, hnd, fun b hb => ?_, fun b hb => ?_, GLe.refl _, ⟨hE.os, hE.tape, hE.output, hE.size, fun b hb _ => hk b hb, fun _ h => h, fun _ h => .inl h, fun id b hb => .inr ⟨id, hb⟩⟩⟩
  · obtain ⟨h1, h2, _⟩ := hfr1 b hb
    exact ⟨fun hz => h1 (hE.zle b (.inl hz)), h2, fun id hc => h1 (hE.zle b (.inr ⟨id, hc⟩))⟩
  · rcases hfr2 b hb with h | ⟨id, h⟩
    · exact .inl h
    · simp at h
end
end Go.Proofs.YtcpefnjofekibaaDoor
