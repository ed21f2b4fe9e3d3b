/- Part A of the engine: what a high value (HV) says of a machine's value in a world; how it is carried from one world to another. No program is in sight. -/
import Derived.Below
import Derived.WalkKit
namespace Go.Proofs.YtcpefnjofekibaaDoor
open Go.RowKit
set_option linter.unusedVariables false

/-- The package variables that are read: each holds a whole number. -/
def globB (b : Nat) : Bool :=
  b == 0

/-- The package variables that are read and hold a value of an interface. -/
def globI (b : Nat) : Bool :=
  b == 1 || b == 2

/-- A high value: a machine's value, with what it leads to in place of its addresses.
any: nothing is known; v: just this value; sl: a slice of memory that nobody writes any more; ow: a slice of its own, met nowhere else; hd: a slice of the object 'id', from a row on; pt: a pointer into the object 'id', when it had n rows; fp: a pointer into memory that nobody writes any more; ag: a struct or an array, cell by cell; tu: a tuple; fn: a function with what it has captured; bx: a pointer to a variable of its own, met nowhere else; ic: a value held in an interface; ob: what is left of an object without its values; mp: a map, the object 'id'; om: a map of its own, met nowhere else; yl: the yield of the loop whose record is the object 'id'. -/
inductive HV where
  | any
  | v (x : Value)
  | sl (rows : List (List HV))
  | ow (e : TypeId) (sz : Nat) (rows : List (List HV))
  | hd (id off len : Nat)
  | pt (id n row off : Nat)
  | fp (rows : List (List HV)) (i off : Nat)
  | ag (cs : List HV)
  | tu (vs : List HV)
  | fn (f : Nat) (caps : List HV)
  | bx (e : TypeId) (sz : Nat) (row : List HV)
  | ic (t : TypeId) (x : HV)
  | ob (x : Obj)
  | mp (id : Nat)
  | om (x : Obj) (hs : List HV)
  | yl (id : Nat)
  deriving Inhabited

/-- The values that an object of the run's own bears (a loop's temporaries, a map's keys and elements), and what is left of it. -/
def obVals : Obj → List Value
  | .loop r => r.tmps.toList
  | .map es _ => es.toList.flatMap fun e => [e.key, e.val]
  | _ => []
def obSkel : Obj → Obj
  | .loop r => .loop { r with tmps := #[] }
  | .map es c => .map (es.map fun e => { e with key := undef, val := undef }) c
  | o => o

/-- Where an object lies: its block (none: it has no rows yet), the cells of a row, how many rows, how many there is room for. -/
structure OG where
  blk : Option Nat
  e : TypeId
  sz : Nat
  n : Nat
  cap : Nat

/-- An object: rows of cells. -/
structure HObj where
  e : TypeId
  sz : Nat
  rows : List (List HV)

abbrev Heap := List (Option HObj)

def rowLen (rows : List (List HV)) : Nat := (rows.headD []).length

/-- All rows are of one length. -/
def Uni (rows : List (List HV)) : Prop := ∀ r ∈ rows, r.length = rowLen rows

/-- The slice that begins at a row of an object and goes to its end. -/
def View (g : OG) (off len : Nat) (y : Value) : Prop :=
  match g.blk with
  | none => y = .slice none 0 0 ∧ off = 0 ∧ len = 0
  | some b => ∃ a, y = .slice (some a) len (g.cap - off) ∧ (len ≠ 0 ∨ off = 0 → a = ⟨b, off * g.sz, none⟩)

mutual
/-- What a high value says of a value, in a world; fp: the blocks that it owns. What is shut, and what is owned, names no object (so: [] for G). -/
def RV (Z : Nat → Prop) : List (Option OG) → World → HV → Value → List Nat → Prop
  | _, _, .any, _, fp => fp = []
  | _, _, .v x, y, fp => fp = [] ∧ y = x
  | _, w, .sl rows, y, fp => fp = [] ∧ ∃ a c, y = .slice a rows.length c ∧ rows.length ≤ c ∧ c ≤ maxLen ∧ (rows = [] ∨ ∃ b o, a = some ⟨b, o, none⟩ ∧ Z b ∧ Uni rows ∧ RR Z [] w rows b o [])
  | _, w, .ow e sz rows, y, fp => (rows = [] ∧ y = .slice none 0 0 ∧ fp = []) ∨
      ∃ b cap cells f, y = .slice (some ⟨b, 0, none⟩) rows.length cap ∧ fp = b :: f ∧ w.heap[b]? = some (.cells cells e (0, 0)) ∧ cells.size = cap * sz ∧ rows.length ≤ cap ∧ cap ≤ maxLen ∧ (∀ r ∈ rows, r.length = sz) ∧ RR Z [] w rows b 0 f
  | G, _, .hd id off len, y, fp => fp = [] ∧ y.oneCell' = true ∧ id < G.length ∧ ∀ g, G[id]? = some (some g) → off + len ≤ g.n ∧ (off + len = g.n → View g off len y)
  | G, _, .pt id n row off, y, fp => fp = [] ∧ y.oneCell' = true ∧ id < G.length ∧ ∀ g, G[id]? = some (some g) → n ≤ g.n ∧ (n = g.n → ∃ b, g.blk = some b ∧ y = .pointer (some ⟨b, row * g.sz + off, none⟩))
  | _, w, .fp rows i off, y, fp => fp = [] ∧ ∃ b o, y = .pointer (some ⟨b, o + i * rowLen rows + off, none⟩) ∧ Z b ∧ Uni rows ∧ RR Z [] w rows b o []
  | G, w, .ag cs, y, fp => ∃ ys, y = .agg ys ∧ RL Z G w cs ys.toList fp
  | G, w, .tu vs, y, fp => ∃ ys, y = .tuple ys ∧ RL Z G w vs ys.toList fp
  | G, w, .fn f caps, y, fp => ∃ ys, y = .func (.func f) #[] ys ∧ RL Z G w caps ys.toList fp
  | _, w, .bx e sz row, y, fp => ∃ b cap cells f, y = .pointer (some ⟨b, 0, none⟩) ∧ fp = b :: f ∧ w.heap[b]? = some (.cells cells e (0, 0)) ∧ cells.size = cap * sz ∧ 1 ≤ cap ∧ cap ≤ maxLen ∧ row.length = sz ∧ RC Z [] w row b 0 f
  | G, w, .ic t x, y, fp => fp = [] ∧ ∃ z, y = .iface t z ∧ RV Z G w x z []
  | _, _, .ob _, _, _ => False
  | G, _, .mp id, y, fp => fp = [] ∧ y.oneCell' = true ∧ id < G.length ∧ ∀ g, G[id]? = some (some g) → 1 ≤ g.n ∧ (1 = g.n → g.blk = none → y = .map (some g.cap))
  | _, w, .om x hs, y, fp => ∃ b obj f, y = .map (some b) ∧ fp = b :: f ∧ w.heap[b]? = some obj ∧ obSkel obj = x ∧ RL Z [] w hs (obVals obj) f
  | G, _, .yl id, y, fp => fp = [] ∧ id < G.length ∧ ∃ l, y = .func (.yield l) #[] #[] ∧ ∀ g, G[id]? = some (some g) → 1 ≤ g.n ∧ (1 = g.n → g.blk = none → l = g.cap)
def RL (Z : Nat → Prop) : List (Option OG) → World → List HV → List Value → List Nat → Prop
  | _, _, [], ys, fp => ys = [] ∧ fp = []
  | G, w, h :: t, ys, fp => ∃ y ys' f1 f2, ys = y :: ys' ∧ fp = f1 ++ f2 ∧ RV Z G w h y f1 ∧ RL Z G w t ys' f2
def RC (Z : Nat → Prop) : List (Option OG) → World → List HV → Nat → Nat → List Nat → Prop
  | _, _, [], _, _, fp => fp = []
  | G, w, h :: t, b, k, fp => ∃ y f1 f2, fp = f1 ++ f2 ∧ w.cell? ⟨b, k, none⟩ = some y ∧ y.oneCell' = true ∧ RV Z G w h y f1 ∧ RC Z G w t b (k + 1) f2
def RR (Z : Nat → Prop) : List (Option OG) → World → List (List HV) → Nat → Nat → List Nat → Prop
  | _, _, [], _, _, fp => fp = []
  | G, w, r :: t, b, k, fp => ∃ f1 f2, fp = f1 ++ f2 ∧ RC Z G w r b k f1 ∧ RR Z G w t b (k + r.length) f2
end

/-- What becomes of objects: a dead one stays dead; one lives on as it was, dies, or has more rows. -/
structure GLe (G G' : List (Option OG)) : Prop where
  len : G.length ≤ G'.length
  at_ : ∀ id, id < G.length → G'[id]? = some none ∨ G'[id]? = G[id]? ∨ ∃ g g', G[id]? = some (some g) ∧ G'[id]? = some (some g') ∧ g.n < g'.n

theorem GLe.refl (G : List (Option OG)) : GLe G G := ⟨Nat.le_refl _, fun _ _ => .inr (.inl rfl)⟩

theorem GLe.trans {G G' G'' : List (Option OG)} (h : GLe G G') (k : GLe G' G'') : GLe G G'' := by
  refine ⟨Nat.le_trans h.len k.len, fun id hid => ?_⟩
  rcases k.at_ id (Nat.lt_of_lt_of_le hid h.len) with k1 | k1 | ⟨g, g', k1, k2, k3⟩
  · exact .inl k1
  · rw [k1]; exact h.at_ id hid
  · rcases h.at_ id hid with h1 | h1 | ⟨g0, g1, h1, h2, h3⟩
    · rw [k1] at h1; cases h1
    · exact .inr (.inr ⟨g, g', h1 ▸ k1, k2, k3⟩)
    · rw [k1] at h2; cases h2; exact .inr (.inr ⟨g0, g', h1, k2, by omega⟩)

section frame
variable {Z Z' : Nat → Prop} {w w' : World}

theorem hd_keep {G G' : List (Option OG)} (hG : GLe G G') {id off len : Nat} {y : Value} (h : id < G.length ∧ ∀ g, G[id]? = some (some g) → off + len ≤ g.n ∧ (off + len = g.n → View g off len y)) :
    id < G'.length ∧ ∀ g, G'[id]? = some (some g) → off + len ≤ g.n ∧ (off + len = g.n → View g off len y) := by
  refine ⟨Nat.lt_of_lt_of_le h.1 hG.len, fun g hg => ?_⟩
  rcases hG.at_ id h.1 with h1 | h1 | ⟨g0, g1, h1, h2, h3⟩
  · rw [h1] at hg; cases hg
  · exact h.2 g (h1 ▸ hg)
  · rw [h2] at hg; cases hg
    have := h.2 g0 h1
    exact ⟨by omega, fun e => by omega⟩

theorem pt_keep {G G' : List (Option OG)} (hG : GLe G G') {id n row off : Nat} {y : Value} (h : id < G.length ∧ ∀ g, G[id]? = some (some g) → n ≤ g.n ∧ (n = g.n → ∃ b, g.blk = some b ∧ y = .pointer (some ⟨b, row * g.sz + off, none⟩))) :
    id < G'.length ∧ ∀ g, G'[id]? = some (some g) → n ≤ g.n ∧ (n = g.n → ∃ b, g.blk = some b ∧ y = .pointer (some ⟨b, row * g.sz + off, none⟩)) := by
  refine ⟨Nat.lt_of_lt_of_le h.1 hG.len, fun g hg => ?_⟩
  rcases hG.at_ id h.1 with h1 | h1 | ⟨g0, g1, h1, h2, h3⟩
  · rw [h1] at hg; cases hg
  · exact h.2 g (h1 ▸ hg)
  · rw [h2] at hg; cases hg
    have := h.2 g0 h1
    exact ⟨by omega, fun e => by omega⟩

theorem mp_keep {G G' : List (Option OG)} (hG : GLe G G') {id : Nat} {p : Nat → Prop} (h : id < G.length ∧ ∀ g, G[id]? = some (some g) → 1 ≤ g.n ∧ (1 = g.n → g.blk = none → p g.cap)) :
    id < G'.length ∧ ∀ g, G'[id]? = some (some g) → 1 ≤ g.n ∧ (1 = g.n → g.blk = none → p g.cap) := by
  refine ⟨Nat.lt_of_lt_of_le h.1 hG.len, fun g hg => ?_⟩
  rcases hG.at_ id h.1 with h1 | h1 | ⟨g0, g1, h1, h2, h3⟩
  · rw [h1] at hg; cases hg
  · exact h.2 g (h1 ▸ hg)
  · rw [h2] at hg; cases hg
    have := h.2 g0 h1
    exact ⟨by omega, fun e => by omega⟩

mutual
theorem RV.keep0 (hZ : ∀ b, Z b → w'.heap[b]? = w.heap[b]?) (hZZ : ∀ b, Z b → Z' b) : ∀ (h : HV) (G G' : List (Option OG)) (y : Value) (fp : List Nat), GLe G G' → (∀ b ∈ fp, w'.heap[b]? = w.heap[b]?) → RV Z G w h y fp → RV Z' G' w' h y fp
  | .any, G, G', y, fp, hG, _, hr => by simpa only [RV] using hr
  | .v x, G, G', y, fp, hG, _, hr => by simpa only [RV] using hr
  | .sl rows, G, G', y, fp, hG, _, hr => by
    simp only [RV] at hr ⊢
    obtain ⟨h0, a, c, h1, h2, h3, h4⟩ := hr
    refine ⟨h0, a, c, h1, h2, h3, h4.imp id ?_⟩
    rintro ⟨b, o, e, hz, hu, hrr⟩
    exact ⟨b, o, e, hZZ b hz, hu, RR.keep0 hZ hZZ rows [] [] b o [] (GLe.refl _) (hZ b hz) (by simp) hrr⟩
  | .ow e sz rows, G, G', y, fp, hG, hf, hr => by
    simp only [RV] at hr ⊢
    refine hr.imp id ?_
    rintro ⟨b, cap, cells, f, h1, h2, h3, h4, h5, h6, h7, h8⟩
    subst h2
    exact ⟨b, cap, cells, f, h1, rfl, (hf b (by simp)).trans h3, h4, h5, h6, h7, RR.keep0 hZ hZZ rows [] [] b 0 f (GLe.refl _) (hf b (by simp)) (fun x hx => hf x (by simp [hx])) h8⟩
  | .hd id off len, G, G', y, fp, hG, _, hr => by
    simp only [RV] at hr ⊢
    exact ⟨hr.1, hr.2.1, hd_keep hG hr.2.2⟩
  | .pt id n row off, G, G', y, fp, hG, _, hr => by
    simp only [RV] at hr ⊢
    exact ⟨hr.1, hr.2.1, pt_keep hG hr.2.2⟩
  | .fp rows i off, G, G', y, fp, hG, _, hr => by
    simp only [RV] at hr ⊢
    obtain ⟨h0, b, o, h1, hz, hu, hrr⟩ := hr
    exact ⟨h0, b, o, h1, hZZ b hz, hu, RR.keep0 hZ hZZ rows [] [] b o [] (GLe.refl _) (hZ b hz) (by simp) hrr⟩
  | .ag cs, G, G', y, fp, hG, hf, hr => by
    simp only [RV] at hr ⊢
    obtain ⟨ys, h1, h2⟩ := hr
    exact ⟨ys, h1, RL.keep0 hZ hZZ cs G G' _ fp hG hf h2⟩
  | .tu cs, G, G', y, fp, hG, hf, hr => by
    simp only [RV] at hr ⊢
    obtain ⟨ys, h1, h2⟩ := hr
    exact ⟨ys, h1, RL.keep0 hZ hZZ cs G G' _ fp hG hf h2⟩
  | .fn f caps, G, G', y, fp, hG, hf, hr => by
    simp only [RV] at hr ⊢
    obtain ⟨ys, h1, h2⟩ := hr
    exact ⟨ys, h1, RL.keep0 hZ hZZ caps G G' _ fp hG hf h2⟩
  | .bx e sz row, G, G', y, fp, hG, hf, hr => by
    simp only [RV] at hr ⊢
    obtain ⟨b, cap, cells, f, h1, h2, h3, h4, h7, h8, h5, h6⟩ := hr
    subst h2
    exact ⟨b, cap, cells, f, h1, rfl, (hf b (by simp)).trans h3, h4, h7, h8, h5, RC.keep0 hZ hZZ row [] [] b 0 f (GLe.refl _) (hf b (by simp)) (fun x hx => hf x (by simp [hx])) h6⟩
  | .ic t x, G, G', y, fp, hG, _, hr => by
    simp only [RV] at hr ⊢
    obtain ⟨h0, z, h1, h2⟩ := hr
    exact ⟨h0, z, h1, RV.keep0 hZ hZZ x G G' z [] hG (by simp) h2⟩
  | .ob x, G, G', y, fp, hG, _, hr => by simp only [RV] at hr
  | .mp id, G, G', y, fp, hG, _, hr => by
    simp only [RV] at hr ⊢
    exact ⟨hr.1, hr.2.1, mp_keep (p := fun n => y = .map (some n)) hG hr.2.2⟩
  | .om x hs, G, G', y, fp, hG, hf, hr => by
    simp only [RV] at hr ⊢
    obtain ⟨b, obj, f, h1, h2, h3, h4, h5⟩ := hr
    subst h2
    exact ⟨b, obj, f, h1, rfl, (hf b (by simp)).trans h3, h4, RL.keep0 hZ hZZ hs [] [] _ f (GLe.refl _) (fun x hx => hf x (by simp [hx])) h5⟩
  | .yl id, G, G', y, fp, hG, _, hr => by
    simp only [RV] at hr ⊢
    obtain ⟨h0, h1, l, h2, h3⟩ := hr
    obtain ⟨k1, k2⟩ := mp_keep (p := fun n => l = n) hG ⟨h1, h3⟩
    exact ⟨h0, k1, l, h2, k2⟩
theorem RL.keep0 (hZ : ∀ b, Z b → w'.heap[b]? = w.heap[b]?) (hZZ : ∀ b, Z b → Z' b) : ∀ (l : List HV) (G G' : List (Option OG)) (ys : List Value) (fp : List Nat), GLe G G' → (∀ b ∈ fp, w'.heap[b]? = w.heap[b]?) → RL Z G w l ys fp → RL Z' G' w' l ys fp
  | [], G, G', ys, fp, hG, _, hr => by simpa only [RL] using hr
  | h :: t, G, G', ys, fp, hG, hf, hr => by
    simp only [RL] at hr ⊢
    obtain ⟨y, ys', f1, f2, h1, h2, h3, h4⟩ := hr
    subst h2
    exact ⟨y, ys', f1, f2, h1, rfl, RV.keep0 hZ hZZ h G G' y f1 hG (fun b hb => hf b (by simp [hb])) h3, RL.keep0 hZ hZZ t G G' ys' f2 hG (fun b hb => hf b (by simp [hb])) h4⟩
theorem RC.keep0 (hZ : ∀ b, Z b → w'.heap[b]? = w.heap[b]?) (hZZ : ∀ b, Z b → Z' b) : ∀ (l : List HV) (G G' : List (Option OG)) (b k : Nat) (fp : List Nat), GLe G G' → w'.heap[b]? = w.heap[b]? → (∀ b ∈ fp, w'.heap[b]? = w.heap[b]?) → RC Z G w l b k fp → RC Z' G' w' l b k fp
  | [], G, G', b, k, fp, hG, _, _, hr => by simpa only [RC] using hr
  | h :: t, G, G', b, k, fp, hG, hb, hf, hr => by
    simp only [RC] at hr ⊢
    obtain ⟨y, f1, f2, h2, h3, h3', h4, h5⟩ := hr
    subst h2
    exact ⟨y, f1, f2, rfl, by rw [World.cell?_of_block (w := w) (a := ⟨b, k, none⟩) hb]; exact h3, h3', RV.keep0 hZ hZZ h G G' y f1 hG (fun b hb => hf b (by simp [hb])) h4, RC.keep0 hZ hZZ t G G' b (k + 1) f2 hG hb (fun b hb => hf b (by simp [hb])) h5⟩
theorem RR.keep0 (hZ : ∀ b, Z b → w'.heap[b]? = w.heap[b]?) (hZZ : ∀ b, Z b → Z' b) : ∀ (l : List (List HV)) (G G' : List (Option OG)) (b k : Nat) (fp : List Nat), GLe G G' → w'.heap[b]? = w.heap[b]? → (∀ b ∈ fp, w'.heap[b]? = w.heap[b]?) → RR Z G w l b k fp → RR Z' G' w' l b k fp
  | [], G, G', b, k, fp, hG, _, _, hr => by simpa only [RR] using hr
  | r :: t, G, G', b, k, fp, hG, hb, hf, hr => by
    simp only [RR] at hr ⊢
    obtain ⟨f1, f2, h2, h3, h4⟩ := hr
    subst h2
    exact ⟨f1, f2, rfl, RC.keep0 hZ hZZ r G G' b k f1 hG hb (fun b hb => hf b (by simp [hb])) h3, RR.keep0 hZ hZZ t G G' b (k + r.length) f2 hG hb (fun b hb => hf b (by simp [hb])) h4⟩
end
section
variable {G G' : List (Option OG)}
theorem RV.keep (hZ : ∀ b, Z b → w'.heap[b]? = w.heap[b]?) (hZZ : ∀ b, Z b → Z' b) (hG : GLe G G') (h : HV) (y : Value) (fp : List Nat) (hf : ∀ b ∈ fp, w'.heap[b]? = w.heap[b]?) (hr : RV Z G w h y fp) : RV Z' G' w' h y fp := RV.keep0 hZ hZZ h G G' y fp hG hf hr
theorem RL.keep (hZ : ∀ b, Z b → w'.heap[b]? = w.heap[b]?) (hZZ : ∀ b, Z b → Z' b) (hG : GLe G G') (l : List HV) (ys : List Value) (fp : List Nat) (hf : ∀ b ∈ fp, w'.heap[b]? = w.heap[b]?) (hr : RL Z G w l ys fp) : RL Z' G' w' l ys fp := RL.keep0 hZ hZZ l G G' ys fp hG hf hr
theorem RC.keep (hZ : ∀ b, Z b → w'.heap[b]? = w.heap[b]?) (hZZ : ∀ b, Z b → Z' b) (hG : GLe G G') (l : List HV) (b k : Nat) (fp : List Nat) (hb : w'.heap[b]? = w.heap[b]?) (hf : ∀ b ∈ fp, w'.heap[b]? = w.heap[b]?) (hr : RC Z G w l b k fp) : RC Z' G' w' l b k fp := RC.keep0 hZ hZZ l G G' b k fp hG hb hf hr
theorem RR.keep (hZ : ∀ b, Z b → w'.heap[b]? = w.heap[b]?) (hZZ : ∀ b, Z b → Z' b) (hG : GLe G G') (l : List (List HV)) (b k : Nat) (fp : List Nat) (hb : w'.heap[b]? = w.heap[b]?) (hf : ∀ b ∈ fp, w'.heap[b]? = w.heap[b]?) (hr : RR Z G w l b k fp) : RR Z' G' w' l b k fp := RR.keep0 hZ hZZ l G G' b k fp hG hb hf hr
end
end frame

end Go.Proofs.YtcpefnjofekibaaDoor
