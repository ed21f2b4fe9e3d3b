/- Parts of the proof: HiW, HiX, HiDf, Sd, Se. -/
import Derived.Test.YteieinhgdjjdoaaZd07
import Derived.RangeFuncNested
import Derived.Test.YteieinhgdjjdoaaZd06
set_option linter.unusedSectionVars false
set_option linter.unusedVariables false
set_option linter.unusedSimpArgs false
namespace Go.Proofs.Yteieinhgdjjdoaa
open Go.RowKit
mutual
theorem nm_mono {m m' : Nat} (h : m ≤ m') : ∀ x : HV, nm m x = true → nm m' x = true
  | .hd .., hx => by simp only [nm, decide_eq_true_eq] at hx ⊢; omega
  | .pt .., hx => by simp only [nm, decide_eq_true_eq] at hx ⊢; omega
  | .mp _, hx => by simp only [nm, decide_eq_true_eq] at hx ⊢; omega
  | .yl _, hx => by simp only [nm, decide_eq_true_eq] at hx ⊢; omega
  | .ag cs, hx => by simp only [nm] at hx ⊢; exact nmL_mono h cs hx
  | .tu cs, hx => by simp only [nm] at hx ⊢; exact nmL_mono h cs hx
  | .fn _ cs, hx => by simp only [nm] at hx ⊢; exact nmL_mono h cs hx
  | .ic _ x, hx => by simp only [nm] at hx ⊢; exact nm_mono h x hx
  | .any, _ => rfl
  | .v _, _ => rfl
  | .sl _, _ => rfl
  | .ow .., _ => rfl
  | .fp .., _ => rfl
  | .bx .., _ => rfl
  | .ob _, _ => rfl
  | .om .., _ => rfl
theorem nmL_mono {m m' : Nat} (h : m ≤ m') : ∀ l : List HV, nmL m l = true → nmL m' l = true
  | [], _ => rfl
  | x :: l, hx => by
    simp only [nmL, Bool.and_eq_true] at hx ⊢
    exact ⟨nm_mono h x hx.1, nmL_mono h l hx.2⟩
end
theorem nmR_mono {m m' : Nat} (h : m ≤ m') : ∀ l : List (List HV), nmR m l = true → nmR m' l = true
  | [], _ => rfl
  | x :: l, hx => by
    simp only [nmR, Bool.and_eq_true] at hx ⊢
    exact ⟨nmL_mono h x hx.1, nmR_mono h l hx.2⟩
def tvT (T : Nat → HV) : Nat → HV := fun i => if tv (T i) = true then T i else .any
theorem tvT_tv (T : Nat → HV) (i : Nat) : tv (tvT T i) = true := by
  unfold tvT
  split
  · assumption
  · rfl
theorem tvs_map {f : Nat → HV} (h : ∀ i, tv (f i) = true) : ∀ l : List Nat, tvs (l.map f) = true
  | [] => rfl
  | a :: l => by simp only [List.map_cons, tvs, h a, tvs_map h l, Bool.and_self]
def recO (N : Nat) (T : Nat → HV) (r : Loop) : HObj := ⟨0, N + 1, [.ob (.loop { r with tmps := #[] }) :: (List.range N).map (tvT T)]⟩
def setPs (T : Nat → HV) : List Nat → List HV → Nat → HV
  | p :: ps, h :: hs => setPs (upd T p h) ps hs
  | _, _ => T
section
variable {Z : Nat → Prop} {G : List (Option OG)} {FP : Nat → List Nat} {H : Heap} {w : World} {P : Program} {N : Nat} {T : Nat → HV}
theorem setPs_spec : ∀ (ps : List Nat) (hs : List HV) (vs : List Value) (T : Nat → HV) (tm : Array Value), RL Z G w hs vs [] → tm.size = N → (∀ i, i < N → RV Z G w (T i) (tm.getD i undef) []) →
    ((ps.zip vs).foldl (fun t (p : Nat × Value) => t.setIfInBounds p.1 p.2) tm).size = N ∧ ∀ i, i < N → RV Z G w (setPs T ps hs i) (((ps.zip vs).foldl (fun t (p : Nat × Value) => t.setIfInBounds p.1 p.2) tm).getD i undef) []
  | [], hs, vs, T, tm, _, hsz, h => by simp only [setPs, List.zip_nil_left, List.foldl_nil]; exact ⟨hsz, h⟩
  | p :: ps, [], vs, T, tm, hr, hsz, h => by
    simp only [RL] at hr
    obtain ⟨rfl, _⟩ := hr
    simp only [setPs, List.zip_nil_right, List.foldl_nil]; exact ⟨hsz, h⟩
  | p :: ps, x :: hs, vs, T, tm, hr, hsz, h => by
    simp only [RL] at hr
    obtain ⟨y, ys, f1, f2, rfl, hf, h1, h2⟩ := hr
    obtain ⟨rfl, rfl⟩ := List.append_eq_nil_iff.1 hf.symm
    simp only [setPs, List.zip_cons_cons, List.foldl_cons]
    refine setPs_spec ps hs ys (upd T p x) (tm.setIfInBounds p y) h2 (by simp [hsz]) (fun i hi => ?_)
    unfold upd
    by_cases e : i = p
    · subst e
      rw [if_pos rfl]
      simpa [Array.getD_eq_getD_getElem?, hsz, hi] using h1
    · rw [if_neg e]
      have := h i hi
      simpa [Array.getD_eq_getD_getElem?, Array.getElem?_setIfInBounds_ne (Ne.symm e)] using this
theorem RL_range {tm : Array Value} (hsz : tm.size = N) (h : ∀ i, i < N → RV Z G w (T i) (tm.getD i undef) []) : RL Z G w ((List.range N).map T) tm.toList [] := by
  have key : ∀ (l : List Nat), (∀ i ∈ l, i < N) → RL Z G w (l.map T) (l.map fun i => tm.getD i undef) [] := by
    intro l
    induction l with
    | nil => intro _; simp [RL]
    | cons a l ih =>
      intro hl
      simp only [List.map_cons, RL]
      exact ⟨_, _, [], [], rfl, rfl, h a (hl a (by simp)), ih (fun i hi => hl i (by simp [hi]))⟩
  have e : tm.toList = (List.range N).map fun i => tm.getD i undef := by
    apply List.ext_getElem?
    intro i
    by_cases hi : i < N
    · have h1 : i < tm.size := by omega
      simp [hi, h1]
    · have h1 : ¬ i < tm.size := by omega
      simp [hi, h1]
  rw [e]
  exact key _ (fun i hi => by simpa using hi)
theorem RL_range_get {tm : Array Value} (h : RL Z G w ((List.range N).map T) tm.toList []) : tm.size = N ∧ ∀ i, i < N → RV Z G w (T i) (tm.getD i undef) [] := by
  have hl := RL_length _ _ _ h
  have hsz : tm.size = N := by simpa using hl
  refine ⟨hsz, fun i hi => ?_⟩
  obtain ⟨y, f, hy, hr, hsub⟩ := RL_get _ _ _ h i (T i) (by simp [hi])
  have : f = [] := List.eq_nil_of_sublist_nil hsub
  subst this
  have : tm.getD i undef = y := by
    rw [Array.getElem?_toList] at hy
    simp [Array.getD_eq_getD_getElem?, hy]
  rw [this]; exact hr
theorem rec_at {Hi : Heap} {rc : Loop} (hi : HInv Z G FP (Hi ++ [some (recO N T rc)]) w) :
    ∃ l tm, G[Hi.length]? = some (some ⟨none, 0, N + 1, 1, l⟩) ∧ FP Hi.length = [l] ∧ w.heap[l]? = some (.loop { rc with tmps := tm }) ∧ RL Z G w ((List.range N).map (tvT T)) tm.toList [] := by
  obtain ⟨g, hg, hob⟩ := hi.live Hi.length (recO N T rc) (by simp)
  rcases hob.at_ with ⟨_, e, _⟩ | ⟨b, cells, f, _, _, _, _, _, _, e⟩ | ⟨x, hs, obj, f, e1, e2, e3, e4, e5, e6⟩
  · simp [recO] at e
  · simp only [recO, RR, RC, RV] at e
    obtain ⟨_, _, _, ⟨_, _, _, _, _, _, h, _⟩, _⟩ := e
    exact h.elim
  · simp only [recO, List.cons.injEq, HV.ob.injEq, and_true] at e2
    obtain ⟨rfl, rfl⟩ := e2
    have hf : f = [] := RL_tvs _ _ _ (tvs_map (tvT_tv T) _) e6
    subst hf
    obtain ⟨tm, rfl⟩ : ∃ tm, obj = .loop { rc with tmps := tm } := by
      cases obj <;> simp [obSkel] at e5
      rename_i r
      cases r; cases rc
      simp at e5
      simp [e5]
    have ge : g = ⟨none, 0, N + 1, 1, g.cap⟩ := by
      have h1 := hob.e; have h2 := hob.sz; have h3 := hob.n
      cases g
      simp [recO] at h1 h2 h3 e1
      simp [h1, h2, h3, e1]
    refine ⟨g.cap, tm, by rw [hg, ← ge], e3, e4, e6⟩
theorem St.putRec {B : Nat} {ds : List Nat} {a : Act} {l : Nat} {r : Loop} {o' : Obj} (hs : St N B Z G FP ds T H a w) (hz : ¬ Z l) (hf : ∀ id, l ∉ FP id) (hl : w.heap[l]? = some (.loop r)) : St N B Z G FP ds T H a (w.putObj l o') := by
  have hk : ∀ b, b ≠ l → (w.putObj l o').heap[b]? = w.heap[b]? := fun b hb => World.putObj_heap_other hb
  refine ⟨hs.inv.keep (by simp) (fun b hb => hk b ?_), hs.size, fun i hi => RV.nil_keep (fun b hb => hk b (fun e => hz (e ▸ hb))) (fun _ h => h) (GLe.refl _) (hs.tmps i hi), hs.defers, hs.dsn, fun d hd => ?_⟩
  · rintro rfl
    rcases hb with hb | ⟨id, hb⟩
    · exact hz hb
    · exact hf id hb
  · obtain ⟨h1, h2, h3, h4⟩ := hs.dsat d hd
    refine ⟨h1, (hk d ?_).trans h2, h3, h4⟩
    rintro rfl
    rw [hl] at h2; cases h2
def RQ (N L : Nat) (I : Heap → Prop) (X : Code → Heap → Prop) : Exit → KS
  | .normal => GQ N L fun _ H => H.length = L ∧ I H
  | .ret => GQ N L fun _ H => H.length = L ∧ X .ret H
  | .exit i => GQ N L fun _ H => H.length = L ∧ X (.exit i) H
  | .goto t => GQ N L fun _ H => H.length = L ∧ X (.goto t) H
  | _ => fun _ _ => False
theorem HYield_round {Hi : Heap} {rc : Loop} {x : List HV} {I : Heap → Prop} {X : Code → Heap → Prop} (hr : rc.state = .ready) (hx : x.length = rc.params.size) (hnm : nmH Hi.length Hi = true) (hxn : nmL Hi.length x = true)
    (hT : ∀ i, i < N → nm Hi.length (tvT T i) = true)
    (round : HW P N Hi.length rc.assign (fin (HW P N Hi.length rc.body (RQ N Hi.length I X)) (fun _ _ _ => False)) (setPs (tvT T) rc.params.toList x) Hi) :
    HYield P Hi.length (Hi ++ [some (recO N T rc)]) x (fun b H' => if b = true then ∃ H2, H' = H2 ++ [some (recO N T { rc with state := .ready, pending := none })] ∧ H2.length = Hi.length ∧ nmH Hi.length H2 = true ∧ I H2
      else ∃ H2 c, H' = H2 ++ [some (recO N T { rc with state := .done, pending := some c })] ∧ H2.length = Hi.length ∧ nmH Hi.length H2 = true ∧ X c H2) := by
  intro ro m Z G FP w l vals hi hy ha
  obtain ⟨l', tm, hg, hfp, hl, hrl⟩ := rec_at hi
  simp only [RV] at hy
  obtain ⟨_, hlt, l2, hl2, hcap⟩ := hy
  cases hl2
  have hll : l = l' := (hcap _ hg).2 rfl rfl
  subst hll
  have hlen := hi.len
  simp only [List.length_append, List.length_cons, List.length_nil] at hlen
  obtain ⟨hsz, htm⟩ := RL_range_get hrl
  have hnm' : nmH Hi.length (Hi ++ [some (recO N T rc)]) = true := by
    have : (Hi ++ [some (recO N T rc)]).take Hi.length = Hi.take Hi.length := by simp
    unfold nmH at hnm ⊢
    rw [this]; exact hnm
  have hic := hi.trunc Hi.length hnm'
  rw [List.take_left] at hic
  have htm' : ∀ i, i < N → RV Z (G.take Hi.length) w (tvT T i) (tm.getD i undef) [] := fun i hi' => nm_spec _ _ G _ [] (hT i hi') (htm i hi')
  have hxr : RL Z (G.take Hi.length) w x vals [] := nmL_spec _ _ G _ [] hxn ha
  have hvl := RL_length _ _ _ ha
  obtain ⟨hsz2, htm2⟩ := setPs_spec rc.params.toList x vals (tvT T) tm hxr hsz htm'
  have efold : (rc.params.zip vals.toArray).foldl (fun tmps (t, a) => tmps.setIfInBounds t a) tm = (rc.params.toList.zip vals).foldl (fun t (p : Nat × Value) => t.setIfInBounds p.1 p.2) tm := by
    rw [← Array.foldl_toList]
    simp [Array.toList_zip]
  obtain ⟨FPt, hFPt⟩ : ∃ FPt : Nat → List Nat, FPt = fun j => if j < Hi.length then FP j else [] := ⟨_, rfl⟩
  rw [← hFPt] at hic
  have hlFP : ∀ id, l ∉ FPt id := fun id hc => by
    rw [hFPt] at hc
    by_cases e : id < Hi.length
    · simp only [if_pos e] at hc
      have := hi.disj id Hi.length l hc (by rw [hfp]; simp)
      omega
    · simp [e] at hc
  have hlZ : ¬ Z l := hi.zfp Hi.length l (by rw [hfp]; simp)
  have hlw : l < w.heap.size := (Array.getElem?_eq_some_iff.1 hl).1
  have hst : St N 0 Z (G.take Hi.length) FPt [] (setPs (tvT T) rc.params.toList x) Hi { tmps := (rc.params.zip vals.toArray).foldl (fun tmps (t, a) => tmps.setIfInBounds t a) tm, defers := [] } w := by
    rw [efold]
    exact ⟨hic, hsz2, htm2, rfl, by simp, by simp⟩
  have hGl : (G.take Hi.length).length = Hi.length := by simp; omega
  refine ⟨rc.fn, _, rc.assign, rc.body, run_yield (P := P) (r := { rc with tmps := tm }) (args := vals.toArray) hl (by simp [hvl, hx]), roundIn_of_wpIn trivial ?_⟩
  refine wpIn_mono (round (some l) m 0 Z _ FPt [] _ w ⟨Nat.zero_le _, fun l' e => by cases e; exact ⟨_, hl, hlFP⟩⟩ (by rw [hGl]; exact Nat.le_refl _) hst) ?_
  rintro e a1 w1 ⟨T1, H1, Z1, G1, FP1, ds1, hq, hs1, hG1, hE1⟩
  cases e with
  | normal =>
    have keepl : ∀ {Za Zb : Nat → Prop} {FPa FPb : Nat → List Nat} {wa wb : World} {ob : Obj}, Evo Za FPa wa Zb FPb wb → wa.heap[l]? = some ob → ¬ Za l → (∀ id, l ∉ FPa id) → wb.heap[l]? = some ob ∧ ¬ Zb l ∧ ∀ id, l ∉ FPb id := by
      intro Za Zb FPa FPb wa wb ob hE h1 h2 h3
      have hlt : l < wa.heap.size := (Array.getElem?_eq_some_iff.1 h1).1
      refine ⟨(hE.keep l hlt h3).trans h1, fun hc => ?_, fun id hc => ?_⟩
      · rcases hE.znew l hc with k | k | ⟨id, k⟩
        · exact h2 k
        · omega
        · exact h3 id k
      · rcases hE.fnew id l hc with k | ⟨id', k⟩
        · omega
        · exact h3 id' k
    obtain ⟨hl1, hlZ1, hlF1⟩ := keepl hE1 hl hlZ hlFP
    refine ⟨_, run_beginRound hl1 hr, ?_⟩
    have hs1' := hs1.putRec (o' := .loop { rc with tmps := tm, state := .busy }) hlZ1 hlF1 hl1
    have hl1' : (w1.putObj l (.loop { rc with tmps := tm, state := .busy })).heap[l]? = some (.loop { rc with tmps := tm, state := .busy }) := World.putObj_heap_same (Array.getElem?_eq_some_iff.1 hl1).1
    have hE1' : ∀ b, b ≠ l → (w1.putObj l (.loop { rc with tmps := tm, state := .busy })).heap[b]? = w1.heap[b]? := fun b hb => World.putObj_heap_other hb
    refine wpIn_mono (hq (some l) m 0 Z1 G1 FP1 ds1 a1 _ ⟨Nat.zero_le _, fun l' e => by cases e; exact ⟨_, hl1', hlF1⟩⟩ hG1.len hs1') ?_
    have fin : ∀ (jump : Option Code) (T3 : Nat → HV) (H3 : Heap) (Z3 : Nat → Prop) (G3 : List (Option OG)) (FP3 : Nat → List Nat) (ds3 : List Nat) (a3 : Act) (w3 : World), St N 0 Z3 G3 FP3 ds3 T3 H3 a3 w3 → H3.length = Hi.length → GLt Hi.length G1 G3 →
        Evo Z1 FP1 (w1.putObj l (.loop { rc with tmps := tm, state := .busy })) Z3 FP3 w3 → (∀ K : Bool → Heap → Prop, K jump.isNone (H3 ++ [some (recO N T { rc with state := if jump.isNone then .ready else .done, pending := jump })]) →
        ∃ v w', (Instr.endRound l jump).run P w3 = .ok v w' ∧ Post Z G FP (Hi ++ [some (recO N T rc)]) w (fun r H' => ∃ b, r = .v (.bool b) ∧ K b H') (.returned v) w') := by
      intro jump T3 H3 Z3 G3 FP3 ds3 a3 w3 hs3 hlen3 hG3 hE3 K hK
      obtain ⟨hl3, hlZ3, hlF3⟩ := keepl hE3 hl1' hlZ1 hlF1
      have hl3lt := (Array.getElem?_eq_some_iff.1 hl3).1
      refine ⟨_, _, run_endRound jump hl3, ?_⟩
      have hk4 : ∀ b, b ≠ l → (w3.putObj l (.loop { rc with tmps := tm, state := if jump.isNone then .ready else .done, pending := jump })).heap[b]? = w3.heap[b]? := fun b hb => World.putObj_heap_other hb
      have hs4 := hs3.putRec (o' := .loop { rc with tmps := tm, state := if jump.isNone then .ready else .done, pending := jump }) hlZ3 hlF3 hl3
      have hG3l : G3.length = Hi.length := hs3.inv.len.trans hlen3
      have hGt3 : GLe (G.take Hi.length) G3 := by
        have := hG1.trans hG3
        exact ⟨by omega, fun id hid => this.at_ id (by omega)⟩
      have hZall : ∀ b, Z b → b ≠ l := fun b hb e => hlZ (e ▸ hb)
      have kept : ∀ b, b < w.heap.size → (∀ id, b ∉ FPt id) → b ≠ l → (w3.putObj l (.loop { rc with tmps := tm, state := if jump.isNone then .ready else .done, pending := jump })).heap[b]? = w.heap[b]? := by
        intro b hb hf hne
        rw [hk4 b hne]
        have hf1 : ∀ id, b ∉ FP1 id := fun id hc => by
          rcases hE1.fnew id b hc with k | ⟨id', k⟩
          · omega
          · exact hf id' k
        have hb1 : b < (w1.putObj l (.loop { rc with tmps := tm, state := .busy })).heap.size := by simp; exact Nat.lt_of_lt_of_le hb hE1.size
        exact ((hE3.keep b hb1 hf1).trans (hE1' b hne)).trans (hE1.keep b hb hf)
      have hZk : ∀ b, Z b → (w3.putObj l (.loop { rc with tmps := tm, state := if jump.isNone then .ready else .done, pending := jump })).heap[b]? = w.heap[b]? := fun b hb =>
        kept b (hi.zlt b hb) (fun id hc => by
          rw [hFPt] at hc
          by_cases e : id < Hi.length
          · simp only [if_pos e] at hc; exact hi.zfp id b hc hb
          · simp [e] at hc) (hZall b hb)
      have hnew := hs4.inv.new (w' := w3.putObj l (.loop { rc with tmps := tm, state := if jump.isNone then .ready else .done, pending := jump })) (o := recO N T { rc with state := if jump.isNone then .ready else .done, pending := jump }) (g := ⟨none, 0, N + 1, 1, l⟩) (fp := [l])
        (Nat.le_refl _) (fun _ _ => rfl) ⟨rfl, rfl, rfl, by simp [recO], .inr (.inr ⟨_, _, .loop { rc with tmps := tm, state := if jump.isNone then .ready else .done, pending := jump }, [], rfl, rfl, rfl, World.putObj_heap_same hl3lt, rfl, RL_range hsz fun i hi' =>
          RV.nil_keep hZk (fun b hb => hE3.zle b (hE1.zle b hb)) (hGt3.trans (GLe.more _)) (htm' i hi')⟩)⟩ (by simp) (by simp only [List.mem_singleton]; rintro b rfl; exact ⟨hlZ3, by simpa using hl3lt, hlF3⟩)
      refine ⟨_, .v (.bool jump.isNone), _, Z3, _, _, [], rfl, ⟨_, rfl, hK⟩, by simp [hlen3], hnew, by simp [RV], by simp, by simp, by simp, ?_, ⟨?_, ?_, ?_, ?_, fun b hb hf => ?_, fun b hb => hE3.zle b (hE1.zle b hb), fun b hb => ?_, fun j b hb => ?_⟩⟩
      · refine ⟨by simp; omega, fun id hid => ?_⟩
        by_cases e : id < Hi.length
        · rw [List.getElem?_append_left (by omega)]
          have k := hGt3.at_ id (by omega)
          simp only [take_get (l := G) e] at k
          exact k
        · have : id = Hi.length := by omega
          subst this
          right; left
          rw [hg, List.getElem?_append_right (by omega)]
          simp [hG3l]
      · exact hE3.os.trans hE1.os
      · exact hE3.tape.trans hE1.tape
      · exact hE3.output.trans hE1.output
      · have := hE3.size; have := hE1.size; simp only [World.putObj_size] at *; omega
      · refine kept b hb (fun id hc => ?_) (fun e => hf Hi.length (by rw [hfp, e]; simp))
        rw [hFPt] at hc
        by_cases e : id < Hi.length
        · simp only [if_pos e] at hc; exact hf id hc
        · simp [e] at hc
      · rcases hE3.znew b hb with k | k | ⟨id, k⟩
        · rcases hE1.znew b k with k | k | ⟨id, k⟩
          · exact .inl k
          · exact .inr (.inl k)
          · rw [hFPt] at k
            by_cases e : id < Hi.length
            · simp only [if_pos e] at k; exact .inr (.inr ⟨id, k⟩)
            · simp [e] at k
        · simp only [World.putObj_size] at k
          exact .inr (.inl (Nat.le_trans hE1.size k))
        · rcases hE1.fnew id b k with k | ⟨id', k⟩
          · exact .inr (.inl k)
          · rw [hFPt] at k
            by_cases e : id' < Hi.length
            · simp only [if_pos e] at k; exact .inr (.inr ⟨id', k⟩)
            · simp [e] at k
      · by_cases e : j = H3.length
        · simp only [if_pos e] at hb
          exact .inr ⟨Hi.length, by rw [hfp]; exact hb⟩
        · simp only [if_neg e] at hb
          rcases hE3.fnew j b hb with k | ⟨id, k⟩
          · simp only [World.putObj_size] at k
            exact .inl (Nat.le_trans hE1.size k)
          · rcases hE1.fnew id b k with k | ⟨id', k⟩
            · exact .inl k
            · rw [hFPt] at k
              by_cases e : id' < Hi.length
              · simp only [if_pos e] at k; exact .inr ⟨id', k⟩
              · simp [e] at k
    rintro e a2 w2 ⟨T2, H2, Z2, G2, FP2, ds2, hq2, hs2, hG2, hE2⟩
    cases e with
    | normal =>
      obtain ⟨T3, H3, gh, hlen3, hI⟩ := hq2
      obtain ⟨Z3, G3, FP3, hs3, hG3, hE3⟩ := gh 0 Z2 G2 FP2 ds2 a2 w2 hG2.len hs2
      have hnm3 := hs3.inv.nm
      rw [hlen3] at hnm3
      exact fin none T3 H3 Z3 G3 FP3 ds2 a2 w2 hs3 hlen3 (hG2.trans hG3) (hE2.trans hE3) _ (by simp only [Option.isNone_none, if_true]; exact ⟨H3, rfl, hlen3, hnm3, hI⟩)
    | ret =>
      obtain ⟨T3, H3, gh, hlen3, hI⟩ := hq2
      obtain ⟨Z3, G3, FP3, hs3, hG3, hE3⟩ := gh 0 Z2 G2 FP2 ds2 a2 w2 hG2.len hs2
      have hnm3 := hs3.inv.nm
      rw [hlen3] at hnm3
      exact fin (some .ret) T3 H3 Z3 G3 FP3 ds2 a2 w2 hs3 hlen3 (hG2.trans hG3) (hE2.trans hE3) _ (by simp only [Option.isNone_some, Bool.false_eq_true, if_false]; exact ⟨H3, _, rfl, hlen3, hnm3, hI⟩)
    | exit i =>
      obtain ⟨T3, H3, gh, hlen3, hI⟩ := hq2
      obtain ⟨Z3, G3, FP3, hs3, hG3, hE3⟩ := gh 0 Z2 G2 FP2 ds2 a2 w2 hG2.len hs2
      have hnm3 := hs3.inv.nm
      rw [hlen3] at hnm3
      exact fin (some (.exit i)) T3 H3 Z3 G3 FP3 ds2 a2 w2 hs3 hlen3 (hG2.trans hG3) (hE2.trans hE3) _ (by simp only [Option.isNone_some, Bool.false_eq_true, if_false]; exact ⟨H3, _, rfl, hlen3, hnm3, hI⟩)
    | goto t =>
      obtain ⟨T3, H3, gh, hlen3, hI⟩ := hq2
      obtain ⟨Z3, G3, FP3, hs3, hG3, hE3⟩ := gh 0 Z2 G2 FP2 ds2 a2 w2 hG2.len hs2
      have hnm3 := hs3.inv.nm
      rw [hlen3] at hnm3
      exact fin (some (.goto t)) T3 H3 Z3 G3 FP3 ds2 a2 w2 hs3 hlen3 (hG2.trans hG3) (hE2.trans hE3) _ (by simp only [Option.isNone_some, Bool.false_eq_true, if_false]; exact ⟨H3, _, rfl, hlen3, hnm3, hI⟩)
    | panic ch => exact hq2.elim
    | outgrown => exact hq2.elim
  | exit i => exact hq.elim
  | goto t => exact hq.elim
  | ret => exact hq.elim
  | panic ch => exact hq.elim
  | outgrown => exact hq.elim
theorem enter_loop {ro : Option Nat} {B : Nat} {ds : List Nat} {a : Act} (hs : St N B Z G FP ds T H a w) (hB : Bo ro B FP w) (fn : FuncId) (ps : Array Tmp) (assign body : Code) :
    ∃ l mk ds1 W1 rc, (Instr.enterLoop fn a.tmps ps assign body ro).run P w = .ok (l, mk) W1 ∧ rc.state = .ready ∧ rc.pending = none ∧ rc.params = ps ∧ rc.assign = assign ∧ rc.body = body ∧ rc.tmps = a.tmps ∧
      W1.heap[l]? = some (.loop rc) ∧ w.heap.size ≤ l ∧ (∀ d ∈ ds1, d ≠ l) ∧ St N B Z G FP ds1 T H { a with defers := mk ++ a.defers } W1 ∧ Evo Z FP w Z FP W1 := by
  have lift : ∀ (W1 : World), W1.os = w.os → W1.tape = w.tape → W1.output = w.output → w.heap.size ≤ W1.heap.size → (∀ b, b < w.heap.size → W1.heap[b]? = w.heap[b]?) → St N B Z G FP ds T H a W1 ∧ Evo Z FP w Z FP W1 := by
    intro W1 h1 h2 h3 h4 h5
    have hE : Evo Z FP w Z FP W1 := ⟨h1, h2, h3, h4, fun b hb _ => h5 b hb, fun _ h => h, fun _ h => .inl h, fun id b hb => .inr ⟨id, hb⟩⟩
    refine ⟨hs.evo (hs.inv.keep h4 (fun b hb => h5 b ?_)) (GLe.refl _) hE, hE⟩
    rcases hb with hb | ⟨id, hb⟩
    · exact hs.inv.zlt b hb
    · exact hs.inv.flt id b hb
  have dlt : ∀ d ∈ ds, d < w.heap.size := fun d hd => (Array.getElem?_eq_some_iff.1 (hs.dsat d hd).2.1).1
  cases ro with
  | none =>
    obtain ⟨rc, hrc⟩ : ∃ rc : Loop, rc = { state := .ready, pending := none, fn, tmps := a.tmps, params := ps, assign, body, defers := w.heap.size } := ⟨_, rfl⟩
    have hrun := run_enterLoop_outer (P := P) (w := w) fn a.tmps ps assign body
    rw [← hrc] at hrun
    have hl1 : ((w.alloc (.deferred (some []))).alloc (.loop rc)).heap[w.heap.size + 1]? = some (.loop rc) := by
      have := World.alloc_heap_new (w.alloc (.deferred (some []))) (.loop rc); rwa [World.size_alloc] at this
    have hd1 : ((w.alloc (.deferred (some []))).alloc (.loop rc)).heap[w.heap.size]? = some (.deferred (some [])) :=
      (Below.heap_alloc _ _ _ (by simp)).trans (World.alloc_heap_new w _)
    obtain ⟨hs1, hE2⟩ := lift ((w.alloc (.deferred (some []))).alloc (.loop rc)) rfl rfl rfl (by simp; omega) (fun b hb => (Below.heap_alloc _ _ _ (by simp; omega)).trans (Below.heap_alloc _ _ _ hb))
    refine ⟨_, _, w.heap.size :: ds, _, rc, hrun, by rw [hrc], by rw [hrc], by rw [hrc], by rw [hrc], by rw [hrc], by rw [hrc], hl1, by omega, fun d hd => ?_, ?_, hE2⟩
    · rcases List.mem_cons.1 hd with rfl | hd
      · omega
      · have := dlt d hd; omega
    · refine ⟨hs1.inv, hs1.size, hs1.tmps, by simp [marks, hs.defers], List.nodup_cons.2 ⟨fun hc => ?_, hs.dsn⟩, fun d hd => ?_⟩
      · have := dlt _ hc; omega
      · rcases List.mem_cons.1 hd with rfl | hd
        · exact ⟨hB.1, hd1, fun hz => by have := hs.inv.zlt _ hz; omega, fun id hc => by have := hs.inv.flt id _ hc; omega⟩
        · exact hs1.dsat d hd
  | some l0 =>
    obtain ⟨r0, h0, _⟩ := hB.2 l0 rfl
    obtain ⟨rc, hrc⟩ : ∃ rc : Loop, rc = { state := .ready, pending := none, fn, tmps := a.tmps, params := ps, assign, body, defers := r0.defers } := ⟨_, rfl⟩
    have hrun := run_enterLoop_inner (P := P) h0 fn a.tmps ps assign body
    rw [← hrc] at hrun
    obtain ⟨hs1, hE2⟩ := lift (w.alloc (.loop rc)) rfl rfl rfl (by simp) (fun b hb => Below.heap_alloc _ _ _ hb)
    exact ⟨_, _, ds, _, rc, hrun, by rw [hrc], by rw [hrc], by rw [hrc], by rw [hrc], by rw [hrc], by rw [hrc], World.alloc_heap_new w _, Nat.le_refl _, fun d hd => by have := dlt d hd; omega, by simpa using hs1, hE2⟩
def XQ (Q : Exit → KS) : Code → KS
  | .ret => Q .ret
  | .exit i => Q (.exit i)
  | .goto t => Q (.goto t)
  | _ => fun _ _ => False
theorem HW.rangeFunc {L : Nat} {Q : Exit → KS} {g : Operand} {ps : Array Tmp} {assign body : Code} {gf : Nat} {caps : List HV} (hgok : opdOk N g = true) (hgf : gf < 4294967296) (hg : hev T g = .fn gf caps)
    (xs : List (List HV)) (H0 : Heap) (I : Nat → Heap → Prop) (X : Code → Heap → Prop) (hH0 : H0.length = H.length ∧ ∀ (j : Nat) (o : HObj), H0[j]? = some (some o) → H[j]? = some (some o))
    (hxs : ∀ x ∈ xs, x.length = ps.size ∧ nmL H.length x = true)
    (hseq : ∀ o, HSeq P gf (H ++ [some o]) caps (H0 ++ [some o]) xs) (h0 : I 0 H0)
    (round : ∀ i x Hi, xs[i]? = some x → Hi.length = H.length → I i Hi → HW P N H.length assign (fin (HW P N H.length body (RQ N H.length (I (i + 1)) X)) (fun _ _ _ => False)) (setPs (tvT T) ps.toList x) Hi)
    (done : ∀ Hf, Hf.length = H.length → I xs.length Hf → Q .normal T Hf) (stop : ∀ c Hf, Hf.length = H.length → X c Hf → XQ Q c T Hf) : HW P N L (.rangeFunc g ps assign body) Q T H := by
  intro ro n B Z G FP ds a w hB hL hs
  refine wpIn_rangeFunc ?_
  intro fn hfn
  obtain ⟨l, mk, ds1, W1, rc, hrun, r1, r2, r3, r4, r5, r6, hl1, hlge, hlds, hs1, hE1⟩ := enter_loop (P := P) hs hB fn ps assign body
  have hgv := hs.hev g hgok
  rw [hg] at hgv
  simp only [RV] at hgv
  obtain ⟨lb, hge, hcl⟩ := hgv
  rw [fnV_lt hgf] at hge
  have hk : G.length = H.length := hs.inv.len
  have hlnZ : ¬ Z l := fun hz => by have := hs.inv.zlt _ hz; omega
  have hlnF : ∀ id, l ∉ FP id := fun id hc => by have := hs.inv.flt id _ hc; omega
  have hlW : l < W1.heap.size := (Array.getElem?_eq_some_iff.1 hl1).1
  have hT : ∀ i, i < N → RV Z G W1 (tvT T i) (a.tmps.getD i undef) [] := fun i hi => by
    unfold tvT
    split
    · exact hs1.tmps i hi
    · simp [RV]
  have hTn : ∀ i, i < N → nm H.length (tvT T i) = true := fun i hi => by rw [← hk]; exact RV_nm _ _ _ _ (hT i hi)
  have hrc0 : ({ rc with state := .ready, pending := none } : Loop) = rc := by cases rc; simp_all
  have hrls : RL Z (G ++ [some (⟨none, 0, N + 1, 1, l⟩ : OG)]) W1 ((List.range N).map (tvT T)) rc.tmps.toList [] := by
    rw [r6]
    exact RL_range hs.size fun i hi => RV.nil_keep (fun _ _ => rfl) (fun _ h => h) (GLe.more _) (hT i hi)
  have hinv1 := hs1.inv.new (w' := W1) (o := recO N T rc) (g := ⟨none, 0, N + 1, 1, l⟩) (fp := [l]) (Nat.le_refl _) (fun _ _ => rfl)
    ⟨rfl, rfl, rfl, by simp [recO], .inr (.inr ⟨_, _, .loop rc, [], rfl, rfl, rfl, hl1, rfl, hrls⟩)⟩ (by simp) (by simp only [List.mem_singleton]; rintro b rfl; exact ⟨hlnZ, hlW, hlnF⟩)
  have hZ1 : ∀ b, Z b → W1.heap[b]? = w.heap[b]? := fun b hb => hE1.keep b (hs.inv.zlt b hb) (fun id hc => hs.inv.zfp id b hc hb)
  have hargs : RL Z (G ++ [some (⟨none, 0, N + 1, 1, l⟩ : OG)]) W1 (.yl H.length :: caps) (.func (.yield l) #[] #[] :: lb.toList) [] := by
    simp only [RL]
    refine ⟨_, _, [], [], rfl, rfl, ?_, RL.keep hZ1 (fun _ h => h) (GLe.more _) _ _ _ (by simp) hcl⟩
    simp only [RV]
    refine ⟨trivial, by simp; omega, l, rfl, fun g hg => ?_⟩
    rw [← hk] at hg
    simp at hg
    subst hg
    exact ⟨Nat.le_refl _, fun _ _ => rfl⟩
  have hnmH : nmH H.length H0 = true := by
    have h1 := hs.inv.nm
    unfold nmH at h1 ⊢
    rw [List.take_length] at h1
    rw [← hH0.1, List.take_length, List.all_eq_true]
    intro o ho
    cases o with
    | none => rfl
    | some ob =>
      obtain ⟨i, hi⟩ := List.mem_iff_getElem?.1 ho
      have := List.all_eq_true.1 h1 _ (List.mem_of_getElem? (hH0.2 i ob hi))
      rw [hH0.1]; exact this
  have hrowm : ∀ r : Loop, nmR (H.length + 1) (recO N T r).rows = true := fun r => by
    simp only [recO, nmR, nmL, nm, Bool.true_and, Bool.and_true]
    have : ∀ l : List Nat, (∀ i ∈ l, i < N) → nmL (H.length + 1) (l.map (tvT T)) = true := by
      intro l
      induction l with
      | nil => intro _; rfl
      | cons a l ih => intro h; simp only [List.map_cons, nmL, nm_mono (Nat.le_succ _) _ (hTn a (h a (by simp))), ih (fun i hi => h i (by simp [hi])), Bool.and_self]
    exact this _ (fun i hi => by simpa using hi)
  have hnmx : ∀ (Hi : Heap) (r : Loop), Hi.length = H.length → nmH H.length Hi = true → nmH (H ++ [some (recO N T rc)]).length (Hi ++ [some (recO N T r)]) = true := by
    intro Hi r hlen hnm
    have e : (H ++ [some (recO N T rc)]).length = (Hi ++ [some (recO N T r)]).length := by simp [hlen]
    unfold nmH at hnm ⊢
    rw [e, List.take_length, List.all_append, Bool.and_eq_true]
    rw [← hlen, List.take_length] at hnm
    refine ⟨?_, ?_⟩
    · rw [List.all_eq_true] at hnm ⊢
      intro o ho
      have := hnm o ho
      cases o with
      | none => rfl
      | some ob => simp only at this ⊢; exact nmR_mono (by simp) _ this
    · simp only [List.all_cons, List.all_nil, Bool.and_true, List.length_append, List.length_cons, List.length_nil, hlen]
      exact hrowm r
  have hc := hseq (recO N T rc) H.length (fun i Hx => ∃ Hi, Hx = Hi ++ [some (recO N T rc)] ∧ Hi.length = H.length ∧ nmH H.length Hi = true ∧ I i Hi)
    (fun i Hx => ∃ Hi c, Hx = Hi ++ [some (recO N T { rc with state := .done, pending := some c })] ∧ Hi.length = H.length ∧ nmH H.length Hi = true ∧ X c Hi) (by simp)
    (by
      rintro i Hx ⟨Hi, rfl, hlen, hnm, _⟩
      exact ⟨by simp [hlen], hnmx Hi rc hlen hnm⟩)
    (by
      rintro i Hx ⟨Hi, c, rfl, hlen, hnm, _⟩
      exact hnmx Hi _ hlen hnm)
    (by
      rintro i x Hx hx ⟨Hi, rfl, hlen, hnm, hI⟩
      have hx2 := hxs x (List.mem_of_getElem? hx)
      have := HYield_round (P := P) (N := N) (T := T) (rc := rc) (x := x) (I := I (i + 1)) (X := X) r1 (by rw [r3]; exact hx2.1) (by rw [hlen]; exact hnm) (by rw [hlen]; exact hx2.2) (by rw [hlen]; exact hTn) (by rw [hlen, r3, r4, r5]; exact round i x Hi hx hlen hI)
      rw [hlen, hrc0] at this
      exact this)
    ⟨H0, rfl, hH0.1, hnmH, h0⟩
  refine ⟨l, mk, W1, { target := .fn (.func gf) lb, args := #[.func (.yield l) #[] #[]] }, W1, gf, #[.func (.yield l) #[] #[]] ++ lb, W1, ?_, ?_, fun _ _ => trivial, ?_, fun h => by cases ro <;> simp [Wd, Fence.wide] at h, ?_⟩
  · exact hrun
  · simp only [resolve, hge]
    simp [go_sem]
  · have := hc.1 (.func (.yield l) #[] #[] :: lb.toList).toArray W1
    have earr : (Value.func (.yield l) #[] #[] :: lb.toList).toArray = #[.func (.yield l) #[] #[]] ++ lb := by apply Array.ext'; simp
    rw [earr] at this
    simp only [invoke]
    exact this
  have hcall := hc.2 Z _ _ W1 _ hinv1 hargs
  have earr : (Value.func (.yield l) #[] #[] :: lb.toList).toArray = #[.func (.yield l) #[] #[]] ++ lb := by apply Array.ext'; simp
  rw [earr] at hcall
  refine callsIn_wd (Calls.mono hcall ?_)
  rintro e w' ⟨v, r, Hf, Z', G', FP', fr, rfl, hQ, hlen, hi', hr, hnd, hfr1, hfr2, hG, hE⟩
  have hF1 : ∀ b, b ≠ l → (∀ id, b ∉ FP id) → ∀ id, b ∉ (if id = H.length then [l] else FP id) := fun b hb hf id hc => by
    by_cases e : id = H.length
    · simp only [if_pos e, List.mem_singleton] at hc; exact hb hc
    · simp only [if_neg e] at hc; exact hf id hc
  have hZW : ∀ b, Z b → w'.heap[b]? = W1.heap[b]? := fun b hb => hE.keep b (hs1.inv.zlt b hb) (hF1 b (fun e => hlnZ (e ▸ hb)) (fun id hc => hs.inv.zfp id b hc hb))
  have key : ∀ (st : LoopState) (pe : Option Code) (Hi : Heap), st ≠ .busy → Hf = Hi ++ [some (recO N T { rc with state := st, pending := pe })] → Hi.length = H.length → nmH H.length Hi = true →
      ∃ w4, (Instr.endLoop l).run P w' = .ok pe w4 ∧ ∃ Z4 G4 FP4, St N B Z4 G4 FP4 ds1 T Hi { a with defers := mk ++ a.defers } w4 ∧ GLt L G G4 ∧ Evo Z FP w Z4 FP4 w4 := by
    rintro st pe Hi hst rfl hlenI hnm
    obtain ⟨l2, tm, hg2, hfp2, hl2, hrl2⟩ := rec_at hi'
    have hll : l2 = l := by
      have h1 : (G ++ [some (⟨none, 0, N + 1, 1, l⟩ : OG)])[H.length]? = some (some ⟨none, 0, N + 1, 1, l⟩) := by rw [← hk]; simp
      rw [hlenI] at hg2
      rcases hG.at_ H.length (by simp; omega) with k | k | ⟨g1, g2, k1, k2, k3⟩
      · rw [hg2] at k; cases k
      · rw [hg2, h1] at k; cases k; rfl
      · rw [h1] at k1; rw [hg2] at k2; cases k1; cases k2; exact absurd k3 (Nat.lt_irrefl _)
    subst hll
    have hlZ' : ¬ Z' l2 := hi'.zfp Hi.length l2 (by rw [hfp2]; simp)
    have hnm' : nmH H.length (Hi ++ [some (recO N T { rc with state := st, pending := pe })]) = true := by
      have : (Hi ++ [some (recO N T { rc with state := st, pending := pe })]).take H.length = Hi.take H.length := by rw [← hlenI]; simp
      unfold nmH at hnm ⊢
      rw [this]; exact hnm
    have htr := hi'.trunc H.length hnm'
    have etk : (Hi ++ [some (recO N T { rc with state := st, pending := pe })]).take H.length = Hi := by rw [← hlenI]; simp
    rw [etk] at htr
    have hlF' : ∀ id, l2 ∉ (if id < H.length then FP' id else []) := fun id hc => by
      by_cases e : id < H.length
      · simp only [if_pos e] at hc
        have := hi'.disj id Hi.length l2 hc (by rw [hfp2]; simp)
        omega
      · simp [e] at hc
    have hGG : GLe G G' := (GLe.more _).trans hG
    have hst' : St N B Z' (G'.take H.length) (fun id => if id < H.length then FP' id else []) ds1 T Hi { a with defers := mk ++ a.defers } w' := by
      refine ⟨htr, hs.size, fun i hi => nm_spec _ _ G' _ [] ?_ (RV.nil_keep hZW hE.zle hGG (hs1.tmps i hi)), hs1.defers, hs1.dsn, fun d hd => ?_⟩
      · rw [← hk]; exact RV_nm _ _ _ _ (hs1.tmps i hi)
      · obtain ⟨h1, h2, h3, h4⟩ := hs1.dsat d hd
        have hne := hlds d hd
        have hdlt : d < W1.heap.size := (Array.getElem?_eq_some_iff.1 h2).1
        refine ⟨h1, (hE.keep d hdlt (hF1 d hne h4)).trans h2, fun hz => ?_, fun id hc => ?_⟩
        · rcases hE.znew d hz with k | k | ⟨id, k⟩
          · exact h3 k
          · omega
          · exact hF1 d hne h4 id k
        · by_cases e : id < H.length
          · simp only [if_pos e] at hc
            rcases hE.fnew id d hc with k | ⟨id', k⟩
            · omega
            · exact hF1 d hne h4 id' k
          · simp [e] at hc
    have hend := run_endLoop (P := P) (w := w') (r := { rc with state := st, pending := pe, tmps := tm }) hl2 hst
    have hst4 := hst'.putRec (o' := .loop { rc with state := .exhausted, pending := pe, tmps := tm }) hlZ' hlF' hl2
    refine ⟨_, hend, Z', G'.take H.length, _, hst4, ⟨by have := hGG.len; rw [List.length_take]; omega, fun id hid => ?_⟩, ⟨?_, ?_, ?_, ?_, fun b hb hf => ?_, hE.zle, fun b hb => ?_, fun j b hb => ?_⟩⟩
    · have k := hGG.at_ id (by omega)
      rw [take_get (l := G') (m := H.length) (i := id) (by omega)]
      exact k
    · exact hE.os.trans hE1.os
    · exact hE.tape.trans hE1.tape
    · exact hE.output.trans hE1.output
    · have := hE.size; have := hE1.size; simp only [World.putObj_size]; omega
    · have hne : b ≠ l2 := by omega
      rw [World.putObj_heap_other hne]
      exact (hE.keep b (Nat.lt_of_lt_of_le hb hE1.size) (hF1 b hne hf)).trans (hE1.keep b hb hf)
    · rcases hE.znew b hb with k | k | ⟨id, k⟩
      · exact .inl k
      · exact .inr (.inl (Nat.le_trans hE1.size k))
      · by_cases e : id = H.length
        · simp only [if_pos e, List.mem_singleton] at k; exact .inr (.inl (k ▸ hlge))
        · simp only [if_neg e] at k; exact .inr (.inr ⟨id, k⟩)
    · by_cases e : j < H.length
      · simp only [if_pos e] at hb
        rcases hE.fnew j b hb with k | ⟨id, k⟩
        · exact .inl (Nat.le_trans hE1.size k)
        · by_cases e : id = H.length
          · simp only [if_pos e, List.mem_singleton] at k; exact .inl (k ▸ hlge)
          · simp only [if_neg e] at k; exact .inr ⟨id, k⟩
      · simp [e] at hb
  rcases hQ with ⟨Hi, e, hlenI, hnm, hI⟩ | ⟨i, Hi, c, e, hlenI, hnm, hX⟩
  · rw [← hrc0] at e
    obtain ⟨w4, h1, Z4, G4, FP4, h2, h3, h4⟩ := key .ready none Hi (by simp) e hlenI hnm
    exact ⟨none, w4, h1, T, Hi, Z4, G4, FP4, ds1, done Hi hlenI hI, h2, h3, h4⟩
  · obtain ⟨w4, h1, Z4, G4, FP4, h2, h3, h4⟩ := key .done (some c) Hi (by simp) e hlenI hnm
    refine ⟨some c, w4, h1, ?_⟩
    have hq := stop c Hi hlenI hX
    cases c with
    | ret => exact wpIn_ret ⟨T, Hi, Z4, G4, FP4, ds1, hq, h2, h3, h4⟩
    | exit i => exact wpIn_exit ⟨T, Hi, Z4, G4, FP4, ds1, hq, h2, h3, h4⟩
    | goto t => exact wpIn_goto ⟨T, Hi, Z4, G4, FP4, ds1, hq, h2, h3, h4⟩
    | _ => exact hq.elim
end
end Go.Proofs.Yteieinhgdjjdoaa
namespace Go.Proofs.Yteieinhgdjjdoaa
open Go.RowKit
section
variable {P : Program} {N L : Nat} {T : Nat → HV} {H : Heap} {k : List Item → KS} {all l : List Oper} {d : Option Nat} {r : List Item}
theorem Ghost.move (i n j q o : Nat) (ob : HObj) (hi : T i = .pt n j q o) (ho : H[n]? = some (some ob)) : Ghost N L T H (upd T i (.pt H.length j q o)) (H.set n none ++ [some ob]) := fun B Z G FP ds a w hL hs => by
  obtain ⟨g, hg, hob⟩ := hs.inv.live n ob ho
  have hk := hs.inv.kill n
  have hlt := hs.inv.lt ho
  have hnew := hk.new (w' := w) (o := ob) (g := g) (fp := FP n) (Nat.le_refl _) (fun _ _ => rfl) (hob.keep (fun _ _ => rfl) (fun _ h => h) ((GLe.kill n).trans (GLe.more _)) (fun _ _ => rfl)) (hs.inv.nodup n)
    (fun b hb => ⟨hs.inv.zfp n b hb, hs.inv.flt n b hb, fun j hj => by
      by_cases e : j = n
      · simp [e] at hj
      · simp only [if_neg e] at hj; exact e (hs.inv.disj j n b hj hb)⟩)
  have hG : GLe G (G.set n none ++ [some g]) := (GLe.kill n).trans (GLe.more _)
  have hE : Evo Z FP w Z (fun j => if j = (H.set n none).length then FP n else if j = n then [] else FP j) w := ⟨rfl, rfl, rfl, Nat.le_refl _, fun _ _ _ => rfl, fun _ h => h, fun _ h => .inl h, fun j b hb => by
    by_cases e : j = (H.set n none).length
    · simp only [if_pos e] at hb; exact .inr ⟨n, hb⟩
    · simp only [if_neg e] at hb
      by_cases e2 : j = n
      · simp [e2] at hb
      · simp only [if_neg e2] at hb; exact .inr ⟨j, hb⟩⟩
  have hs' := hs.evo hnew hG hE
  refine ⟨Z, _, _, ⟨hs'.inv, hs'.size, fun c hc => ?_, hs'.defers, hs'.dsn, hs'.dsat⟩, GLt.of hL hG, hE⟩
  unfold upd
  split
  · rename_i e
    subst e
    have h0 := hs.tmps c hc
    rw [hi] at h0
    simp only [RV] at h0 ⊢
    obtain ⟨h1, h2, h3, h4⟩ := h0
    refine ⟨h1, h2, by simp [hs.inv.len], fun g' hg' => ?_⟩
    rw [← hs.inv.len] at hg'
    have : g' = g := by
      rw [List.getElem?_append_right (by simp)] at hg'
      simp at hg'; exact hg'.symm
    subst this
    exact h4 g' hg
  · exact hs'.tmps c hc
theorem yieldX_at {id m : Nat} {Hq own : Heap} {args : List HV} {Kb : Bool → Heap → Prop} (hm : Hq.length = m) (hid : id < m) (hnm : nmH m Hq = true) (hargs : nmL m args = true) (hy : HYield P id Hq args Kb)
    (h : ∀ b Hq', Kb b Hq' → Hq'.length = m → k (.ops all l :: r) (updO T d (.v (.bool b))) (Hq' ++ own)) : yieldX k P id (Hq ++ own) args all d l r T := by
  subst hm
  have hnm' : nmH Hq.length (Hq ++ own) = true := by
    unfold nmH at hnm ⊢
    rw [List.take_length] at hnm
    rw [List.take_left]
    exact hnm
  have hy' : HYield P id ((Hq ++ own).take Hq.length) args Kb := by rw [List.take_left]; exact hy
  refine ⟨_, HYield.frame (H := Hq ++ own) Hq.length hy' hid (by simp) hnm' hargs, ?_⟩
  rintro b H' ⟨Hc, rfl, hlen, hK⟩ _
  rw [List.drop_left]
  exact h b Hc hK hlen
def gopen1 (H : Heap) (id r c : Nat) (ob : HObj) (row : List HV) : Option HV → Heap
  | some (.ow e sz rows) => H.set id (some { ob with rows := ob.rows.set r (row.set c (.hd H.length 0 rows.length)) }) ++ [some ⟨e, sz, rows⟩]
  | some (.bx e sz rw) => H.set id (some { ob with rows := ob.rows.set r (row.set c (.pt H.length 1 0 0)) }) ++ [some ⟨e, sz, [rw]⟩]
  | some (.om x hs) => H.set id (some { ob with rows := ob.rows.set r (row.set c (.mp H.length)) }) ++ [some ⟨0, hs.length + 1, [.ob x :: hs]⟩]
  | _ => H
def onOb (H : Heap) (o : Option HObj) (r : Nat) (f : HObj → List HV → Heap) : Heap :=
  match o with
  | some ob => match ob.rows[r]? with
    | some row => f ob row
    | none => H
  | none => H
theorem onOb_some {ob : HObj} {r : Nat} {f : HObj → List HV → Heap} : onOb H (some ob) r f = match ob.rows[r]? with
    | some row => f ob row
    | none => H := rfl
theorem gopen_eq {id r c : Nat} : gopen H id r c = onOb H (getO H id) r fun ob row => gopen1 H id r c ob row row[c]? := by
  unfold gopen getO onOb gopen1
  repeat' split
  all_goals first | rfl | simp_all
theorem gopens_zero {id r c : Nat} : gopens H id r c 0 = H := rfl
theorem gopens_1 {id r c : Nat} : gopens H id r c 1 = gopen H id r c := rfl
theorem gopens_2 {id r c : Nat} : gopens H id r c 2 = gopen (gopen H id r c) id r (c + 1) := rfl
theorem gopens_3 {id r c : Nat} : gopens H id r c 3 = gopen (gopen (gopen H id r c) id r (c + 1)) id r (c + 1 + 1) := rfl
def absHd (H : Heap) (id r c : Nat) (ob : HObj) (row : List HV) (j len : Nat) : Option HObj → Heap
  | some oj => if j ≠ id ∧ len = oj.rows.length ∧ nmR 0 oj.rows = true then (H.set j none).set id (some { ob with rows := ob.rows.set r (row.set c (.ow oj.e oj.sz oj.rows)) }) else H
  | none => H
def absPt (H : Heap) (id r c : Nat) (ob : HObj) (row : List HV) (j : Nat) : Option HObj → Heap
  | some ⟨e, sz, [rw]⟩ => if j ≠ id ∧ nmL 0 rw = true then (H.set j none).set id (some { ob with rows := ob.rows.set r (row.set c (.bx e sz rw)) }) else H
  | _ => H
def absMp (H : Heap) (id r c : Nat) (ob : HObj) (row : List HV) (j : Nat) : Option HObj → Heap
  | some ⟨_, _, [.ob x :: hs]⟩ => if j ≠ id ∧ nmL 0 hs = true then (H.set j none).set id (some { ob with rows := ob.rows.set r (row.set c (.om x hs)) }) else H
  | _ => H
def abs1 (H : Heap) (id r c : Nat) (ob : HObj) (row : List HV) : Option HV → Heap
  | some (.hd j 0 len) => absHd H id r c ob row j len (getO H j)
  | some (.pt j 1 0 0) => absPt H id r c ob row j (getO H j)
  | some (.mp j) => absMp H id r c ob row j (getO H j)
  | _ => H
theorem absorb_eq {id r c : Nat} : absorb H id r c = onOb H (getO H id) r fun ob row => abs1 H id r c ob row row[c]? := by
  unfold absorb
  cases hH : H[id]? with
  | none => simp only [getO, hH, onOb]
  | some o =>
    cases o with
    | none => simp only [getO, hH, onOb]
    | some ob =>
      have e1 : getO H id = some ob := by simp only [getO, hH]
      simp only [e1, onOb]
      cases hr : ob.rows[r]? with
      | none => rfl
      | some row =>
        simp only
        have gg : ∀ j, getO H j = match H[j]? with | some (some ob) => some ob | _ => none := fun j => rfl
        cases hc : row[c]? with
        | none => rfl
        | some x =>
          cases x with
          | hd j off len =>
            cases off with
            | zero =>
              simp only [abs1, gg]
              cases hj : H[j]? with
              | none => rfl
              | some o => cases o <;> rfl
            | succ n => rfl
          | pt j a b c' =>
            by_cases h : a = 1 ∧ b = 0 ∧ c' = 0
            · obtain ⟨rfl, rfl, rfl⟩ := h
              simp only [abs1, gg]
              cases hj : H[j]? with
              | none => rfl
              | some o =>
                cases o with
                | none => rfl
                | some oj =>
                  obtain ⟨e, sz, rows⟩ := oj
                  cases rows with
                  | nil => rfl
                  | cons a t => cases t <;> rfl
            · rcases a with _ | _ | a
              · rfl
              · rcases b with _ | b
                · rcases c' with _ | c'
                  · exact absurd ⟨rfl, rfl, rfl⟩ h
                  · rfl
                · rfl
              · rfl
          | mp j =>
            simp only [abs1, gg]
            cases hj : H[j]? with
            | none => rfl
            | some o =>
              cases o with
              | none => rfl
              | some oj =>
                obtain ⟨e, sz, rows⟩ := oj
                cases rows with
                | nil => rfl
                | cons a t =>
                  cases a with
                  | nil => cases t <;> rfl
                  | cons x a => cases x <;> cases t <;> rfl
          | _ => rfl
def Conv (x h : HV) : Prop := ∀ (Z : Nat → Prop) (G : List (Option OG)) (w : World) (y : Value), RV Z G w x y [] → RV Z G w h y []
theorem Conv.nilOw (e : TypeId) (sz : Nat) : Conv (.v (.slice none 0 0)) (.ow e sz []) := fun Z G w y h => by
  simp only [RV] at h ⊢
  exact .inl ⟨trivial, h.2, trivial⟩
theorem Conv.nilSl : Conv (.v (.slice none 0 0)) (.sl []) := fun Z G w y h => by
  simp only [RV] at h ⊢
  exact ⟨trivial, none, 0, h.2, Nat.le_refl _, by simp [maxLen], .inl trivial⟩
theorem Conv.any (x : HV) : Conv x .any := fun Z G w y h => by simp [RV]
theorem Ghost.cell (id i c : Nat) (h' : HV) {ob : HObj} {row : List HV} {x : HV} (ho : H[id]? = some (some ob)) (hr : ob.rows[i]? = some row) (hc : row[c]? = some x) (htv : tv x = true) (hx : Conv x h') (hnb : ∀ u, x ≠ .ob u) :
    Ghost N L T H T (H.set id (some { ob with rows := ob.rows.set i (row.set c h') })) := fun B Z G FP ds a w hL hs => by
  obtain ⟨g, hg, hob⟩ := hs.inv.live id ob ho
  obtain ⟨y, fx, fa, hv, hperm, hsw⟩ := hob.swap hr hc hnb
  have hfx : fx = [] := RV_tv x y fx htv hv
  subst hfx
  simp only [List.nil_append] at hperm
  obtain ⟨fp', hob', hp'⟩ := hsw G h' [] (GLe.refl _) (hx Z G w y hv)
  simp only [List.nil_append] at hp'
  have hpp := hp'.trans hperm.symm
  have hi := hs.inv.say ho hg hob' (hpp.nodup_iff.2 (hs.inv.nodup id)) (fun b hb => by
    have hb' := hpp.mem_iff.1 hb
    exact ⟨hs.inv.zfp id b hb', hs.inv.flt id b hb', fun j hj hc => hj (hs.inv.disj j id b hc hb')⟩)
  have hE : Evo Z FP w Z (fun j => if j = id then fp' else FP j) w := ⟨rfl, rfl, rfl, Nat.le_refl _, fun _ _ _ => rfl, fun _ h => h, fun _ h => .inl h, fun j b hb => by
    by_cases e : j = id
    · simp only [if_pos e] at hb; exact .inr ⟨id, hpp.mem_iff.1 hb⟩
    · simp only [if_neg e] at hb; exact .inr ⟨j, hb⟩⟩
  exact ⟨Z, G, _, hs.evo hi (GLe.refl _) hE, GLt.refl hL, hE⟩
theorem Ghost.tmp (i : Nat) (h' : HV) (hx : Conv (T i) h') : Ghost N L T H (upd T i h') H := fun B Z G FP ds a w hL hs => by
  refine ⟨Z, G, FP, ⟨hs.inv, hs.size, fun j hj => ?_, hs.defers, hs.dsn, hs.dsat⟩, GLt.refl hL, Evo.refl _ _ _⟩
  unfold upd
  split
  · rename_i e; subst e; exact hx _ _ _ _ (hs.tmps j hj)
  · exact hs.tmps j hj
theorem HCalls.conv {f : FuncId} {args : List HV} {Q Q' : HV → Heap → Prop} (h : HCalls P f H args Q) (hq : ∀ x H', Q x H' → ∃ x', Q' x' H' ∧ (x' = x ∨ (tv x = true ∧ Conv x x'))) : HCalls P f H args Q' := by
  refine ⟨h.1, fun Z G FP w vals hi ha => Calls.mono (h.2 Z G FP w vals hi ha) ?_⟩
  rintro e w' ⟨v, x, H', Z', G', FP', fr, he, hQ, hlen, hi', hr, hnd, hf1, hf2, hG, hE⟩
  obtain ⟨x', hQ', hx⟩ := hq x H' hQ
  rcases hx with rfl | ⟨htv, hc⟩
  · exact ⟨v, x', H', Z', G', FP', fr, he, hQ', hlen, hi', hr, hnd, hf1, hf2, hG, hE⟩
  · have := RV_tv x v fr htv hr
    subst this
    exact ⟨v, x', H', Z', G', FP', [], he, hQ', hlen, hi', hc _ _ _ _ hr, hnd, hf1, hf2, hG, hE⟩
theorem exCall_yl {id : Nat} {args : List HV} : exCall k P (.yl id) H args all d l r T = yieldX k P id H args all d l r T := rfl
theorem fz_yl {id : Nat} {n : Nat} : fz (n + 1) H (.yl id) = .any := rfl
theorem fz_mp {id : Nat} {n : Nat} : fz (n + 1) H (.mp id) = .any := rfl
theorem c1_yl {id : Nat} : c1 (.yl id) = true := rfl
theorem c1_mp {id : Nat} : c1 (.mp id) = true := rfl
theorem setPs_cons {p : Nat} {ps : List Nat} {h : HV} {hs : List HV} : setPs T (p :: ps) (h :: hs) = setPs (upd T p h) ps hs := rfl
theorem setPs_nil {hs : List HV} : setPs T [] hs = T := rfl
theorem tvT_at {i : Nat} : tvT T i = if tv (T i) = true then T i else .any := rfl
theorem getO_behind {A B : Heap} {m i : Nat} (h : A.length = m) : getO (A ++ B) (m + i) = getO B i := by
  subst h
  unfold getO
  rw [List.getElem?_append_right (by omega)]
  simp
theorem getO_behind0 {A B : Heap} {m : Nat} (h : A.length = m) : getO (A ++ B) m = getO B 0 := getO_behind (i := 0) h
theorem set_behind {A B : Heap} {m i : Nat} {x : Option HObj} (h : A.length = m) : (A ++ B).set (m + i) x = A ++ B.set i x := by
  subst h
  rw [List.set_append_right _ _ (by omega)]
  simp
end
def SubH : Heap → Heap → Prop
  | [], [] => True
  | none :: a, _ :: b => SubH a b
  | some o :: a, x :: b => x = some o ∧ SubH a b
  | _, _ => False
theorem SubH.spec : ∀ {H0 H : Heap}, SubH H0 H → H0.length = H.length ∧ ∀ (j : Nat) (o : HObj), H0[j]? = some (some o) → H[j]? = some (some o)
  | [], [], _ => ⟨rfl, fun _ _ h => h⟩
  | none :: a, x :: b, h => by
    obtain ⟨h1, h2⟩ := SubH.spec (H0 := a) (H := b) h
    refine ⟨by simp [h1], fun j o hj => ?_⟩
    cases j with
    | zero => simp at hj
    | succ j => exact h2 j o hj
  | some o :: a, x :: b, h => by
    obtain ⟨h1, h2⟩ := SubH.spec (H0 := a) (H := b) h.2
    refine ⟨by simp [h1], fun j o' hj => ?_⟩
    cases j with
    | zero => simp at hj; subst hj; simp [h.1]
    | succ j => exact h2 j o' hj
  | none :: a, [], h => h.elim
  | some o :: a, [], h => h.elim
  | [], x :: b, h => h.elim
theorem RQ_normal {N L : Nat} {I : Heap → Prop} {X : Code → Heap → Prop} {T : Nat → HV} {H : Heap} : RQ N L I X .normal T H = GQ N L (fun _ H => H.length = L ∧ I H) T H := rfl
theorem RQ_ret {N L : Nat} {I : Heap → Prop} {X : Code → Heap → Prop} {T : Nat → HV} {H : Heap} : RQ N L I X .ret T H = GQ N L (fun _ H => H.length = L ∧ X .ret H) T H := rfl
theorem RQ_exit {N L i : Nat} {I : Heap → Prop} {X : Code → Heap → Prop} {T : Nat → HV} {H : Heap} : RQ N L I X (.exit i) T H = GQ N L (fun _ H => H.length = L ∧ X (.exit i) H) T H := rfl
theorem RQ_goto {N L i : Nat} {I : Heap → Prop} {X : Code → Heap → Prop} {T : Nat → HV} {H : Heap} : RQ N L I X (.goto i) T H = GQ N L (fun _ H => H.length = L ∧ X (.goto i) H) T H := rfl
theorem endP_behind {L : Nat} {Q : HV → Heap → Prop} {x : HV} {A B : Heap} (hl : A.length = L) (hn : nmH L A = true) (hq : Q x A) : endP L Q (x, A ++ B) := by
  subst hl
  refine ⟨?_, by simpa using hq⟩
  unfold nmH at hn ⊢
  rw [List.take_length] at hn
  simpa using hn
attribute [go_sem] absorb_eq abs1 absHd absPt absMp gopen_eq gopens_zero gopens_1 gopens_2 gopens_3 onOb_some gopen1
attribute [go_sem] exCall_yl c1_yl c1_mp fz_yl fz_mp setPs_cons setPs_nil tvT_at
attribute [go_sem ↓] RQ_normal RQ_ret RQ_exit RQ_goto
end Go.Proofs.Yteieinhgdjjdoaa
namespace Go.Proofs.Yteieinhgdjjdoaa
open Go.RowKit
section
variable {N L : Nat} {T : Nat → HV} {H : Heap}
theorem Ghost.open (id r c : Nat) : Ghost N L T H T (gopen H id r c) := fun B Z G FP ds a w hL hs => by
  obtain ⟨G', FP', h1, h2, h3⟩ := gopen_inv hs.inv id r c
  exact ⟨Z, G', FP', hs.evo h1 h2 h3, GLt.of hL h2, h3⟩
theorem Ghost.to {T' : Nat → HV} {H1 H2 : Heap} (g : Ghost N L T H T' H1) (e : H1 = H2) : Ghost N L T H T' H2 := e ▸ g
theorem row_last {A : List (List HV)} {r : List HV} {i : Nat} (h : A.length = i) : (A ++ [r])[i]? = some r := by subst h; simp
theorem set_last {A : List (List HV)} {r x : List HV} {i : Nat} (h : A.length = i) : (A ++ [r]).set i x = A ++ [x] := by subst h; simp
variable {R : (Nat → HV) → Heap → Prop} {T' : Nat → HV} {H' : Heap}
theorem GQ.step (g : Ghost N L T H T' H') (h : GQ N L R T' H') : GQ N L R T H := by
  obtain ⟨T2, H2, g2, hR⟩ := h
  exact ⟨T2, H2, g.trans g2, hR⟩
theorem GQ.done (h : R T H) : GQ N L R T H := ⟨T, H, Ghost.refl, h⟩
end
theorem gopens_4 {H : Heap} {id r c : Nat} : gopens H id r c 4 = gopen (gopen (gopen (gopen H id r c) id r (c + 1)) id r (c + 1 + 1)) id r (c + 1 + 1 + 1) := rfl
theorem set_get {A : List (List HV)} {i : Nat} (h : i < A.length) (X : List HV) : (A.set i X)[i]? = some X := by simp [h]
theorem set_set {A : List (List HV)} {i : Nat} (X Y : List HV) : (A.set i X).set i Y = A.set i Y := by simp
theorem fz_ow {k : Nat} {H : Heap} {e : TypeId} {sz : Nat} {rows : List (List HV)} : fz (k + 1) H (.ow e sz rows) = .sl (fzoR rows) := rfl
attribute [go_sem] fz_ow gopens_4 set_set Option.getD_some Option.getD_none Option.isSome_none List.length_set
end Go.Proofs.Yteieinhgdjjdoaa
namespace Go.Proofs.Yteieinhgdjjdoaa
open Go.RowKit
set_option maxRecDepth 8000
def thdB : Thd := ⟨0, [0, 0, 0, 0], false, []⟩
theorem beginS_eq (p : Prg) : beginS p = ⟨p.init, List.replicate p.thr.length thdB⟩ := by
  unfold beginS thdB
  rw [List.map_const']
set_option maxHeartbeats 1000000 in
theorem refBegin (p : Prg) (hp : p.thr.length ≤ 1000) (hi : p.init.length ≤ 1000) : HFn Try.prog 35 [prgH p] (staH (beginS p)) := by
  rw [beginS_eq]
  refine HFn_bodyF (fn := Try.f35) 3 25 [.cell 2 38] (by kernel_rfl) rfl rfl (by kernel_rfl) (HW.run 400 (by kernel_rfl) ?_)
  simp (config := { decide := true }) only [go_sem, Int.reduceToNat, Nat.reduceAdd, Nat.reduceSub, Nat.reduceMul, Nat.reduceBEq, reduceIte, reduceCtorEq]
  repeat (with_reducible refine And.intro ?_ ?_; · (with_reducible and_intros) <;> omega)
  refine HW.loopG (fun k T H => ∃ i : Nat, k = p.thr.length - i ∧ i ≤ p.thr.length ∧ T 1 = .pt 0 1 0 0 ∧ T 2 = .pt 1 1 0 0 ∧ T 3 = .pt 3 1 0 0 ∧ T 4 = .v (.int .i64 i) ∧
    H = [some ⟨25, 2, [[.sl (ints p.init), .sl (thrs p.thr)]]⟩, some ⟨38, 2, [[.v (.slice none 0 0), .v (.slice none 0 0)]]⟩, some ⟨3, 1, ints p.init⟩, some ⟨38, 2, [[.hd 2 0 p.init.length, .hd 4 0 i]]⟩, some ⟨50, 4, thdsO (List.replicate i thdB)⟩]) p.thr.length
    ⟨_, _, (Ghost.cell 3 0 1 (.ow 50 4 []) rfl rfl rfl rfl (Conv.nilOw _ _) (by simp)).trans (Ghost.open 3 0 1), 0, rfl, by omega, rfl, rfl, rfl, rfl, ?_⟩ ?_
  · rfl
  rintro k T H ⟨i, rfl, hi, h1, h2, h3, h4, rfl⟩
  refine HW.run 200 (by kernel_rfl) ?_
  by_cases hlt : i < p.thr.length
  · have hlt' : ((i : Int) < (p.thr.length : Int)) = True := by rw [int_lt]; simp [hlt]
    simp (config := { decide := true }) only [go_sem, Int.reduceToNat, Nat.reduceAdd, Nat.reduceSub, Nat.reduceMul, Nat.reduceBEq, reduceIte, reduceCtorEq, h1, h2, h3, h4, hlt']
    repeat (with_reducible refine And.intro ?_ ?_; · (with_reducible and_intros) <;> omega)
    refine HW.mixed 80 6 (4, 0) [2, 4, 5] follows (by kernel_rfl) (by decide) ?_
    simp (config := { decide := true }) only [go_sem, Int.reduceToNat, Nat.reduceAdd, Nat.reduceSub, Nat.reduceMul, Nat.reduceBEq, reduceIte, reduceCtorEq, h1, h2, h3, h4, hlt', List.length_replicate]
    repeat (with_reducible refine And.intro ?_ ?_; · (with_reducible and_intros) <;> omega)
    have hlen : (thdsO (List.replicate i thdB)).length = i := by simp [thdsO]
    have hrl : ∀ X, (thdsO (List.replicate i thdB) ++ [X])[i]? = some X := fun X => row_last hlen
    have hsl : ∀ X Y, (thdsO (List.replicate i thdB) ++ [X]).set i Y = thdsO (List.replicate i thdB) ++ [Y] := fun X Y => set_last hlen
    refine GQ.step (Ghost.absorb 4 i 1) ?_
    simp (config := { decide := true }) only [go_sem, Int.reduceToNat, Nat.reduceAdd, Nat.reduceSub, Nat.reduceMul, Nat.reduceBEq, reduceIte, reduceCtorEq, hrl, hsl, absorb_eq, onOb_some]
    refine GQ.step (Ghost.cell 4 i 3 (.ow 104 2 []) rfl (hrl _) rfl rfl (Conv.nilOw _ _) (by simp)) ?_
    refine GQ.step (Ghost.trunc [1, 2, 3, 4] 5 (by omega) ?_ ?_) (GQ.done ⟨p.thr.length - (i + 1), by omega, i + 1, rfl, by omega, ?_, ?_, ?_, ?_, ?_⟩)
    · simp (config := { decide := true }) only [go_sem, Nat.reduceBEq, reduceIte, h1, h2, h3]
    · simp (config := { decide := true }) only [go_sem, Nat.reduceBEq, reduceIte, hsl, nmR_append, List.set_cons_succ, List.set_cons_zero]
    iterate 3 simp (config := { decide := true }) only [go_sem, Nat.reduceBEq, reduceIte, h1, h2, h3]
    · simp (config := { decide := true }) only [go_sem, Nat.reduceBEq, reduceIte]; rw [w64 (by omega) (by omega)]; rfl
    · have e : thdsO (List.replicate (i + 1) thdB) = thdsO (List.replicate i thdB) ++ [throwO thdB] := by rw [List.replicate_succ', ← thdsO_snoc]
      simp (config := { decide := true }) only [go_sem, Int.reduceToNat, Nat.reduceAdd, Nat.reduceSub, Nat.reduceMul, Nat.reduceBEq, reduceIte, reduceCtorEq, hsl]
      rw [e]
      rfl
  · have hlt' : ((i : Int) < (p.thr.length : Int)) = False := by rw [int_lt]; simp [hlt]
    have e : i = p.thr.length := by omega
    simp (config := { decide := true }) only [go_sem, Int.reduceToNat, Nat.reduceAdd, Nat.reduceSub, Nat.reduceMul, Nat.reduceBEq, reduceIte, reduceCtorEq, h1, h2, h3, h4, hlt', List.length_replicate]
    rw [e]
set_option maxHeartbeats 2000000 in
theorem refOwn (s : Sta) (hm : s.mem.length ≤ 100000) (ht : s.ths.length ≤ 1000) (hr : ∀ t ∈ s.ths, t.regs.length ≤ 100000 ∧ t.buf.length ≤ 100000) : HFn Try.prog 57 [staH s] (staO s) := by
  refine HCalls_bodyC (fn := Try.f57) 40 [.cell 2 38] (by kernel_rfl) rfl rfl (by kernel_rfl) (HW.run 400 (by kernel_rfl) ?_)
  simp (config := { decide := true }) only [go_sem, Int.reduceToNat, Nat.reduceAdd, Nat.reduceSub, Nat.reduceMul, Nat.reduceBEq, reduceIte, reduceCtorEq]
  repeat (with_reducible refine And.intro ?_ ?_; · (with_reducible and_intros) <;> omega)
  refine HW.loopG (fun k T H => ∃ i : Nat, k = s.ths.length - i ∧ i ≤ s.ths.length ∧ T 1 = .pt 0 1 0 0 ∧ T 2 = .pt 1 1 0 0 ∧ T 3 = .pt 3 1 0 0 ∧ T 4 = .v (.int .i64 i) ∧
    H = [some ⟨38, 2, [[.sl (ints s.mem), .sl (thds s.ths)]]⟩, some ⟨38, 2, [[.v (.slice none 0 0), .v (.slice none 0 0)]]⟩, some ⟨3, 1, ints s.mem⟩, some ⟨38, 2, [[.hd 2 0 s.mem.length, .hd 4 0 i]]⟩, some ⟨50, 4, thdsO (s.ths.take i)⟩]) s.ths.length
    ⟨_, _, (Ghost.cell 3 0 1 (.ow 50 4 []) rfl rfl rfl rfl (Conv.nilOw _ _) (by simp)).trans (Ghost.open 3 0 1), 0, rfl, by omega, rfl, rfl, rfl, rfl, ?_⟩ ?_
  · rfl
  rintro k T H ⟨i, rfl, hi, h1, h2, h3, h4, rfl⟩
  refine HW.run 200 (by kernel_rfl) ?_
  by_cases hlt : i < s.ths.length
  · have hlt' : ((i : Int) < (s.ths.length : Int)) = True := by rw [int_lt]; simp [hlt]
    have hx : s.ths[i]? = some s.ths[i] := List.getElem?_eq_getElem hlt
    obtain ⟨r1, r2⟩ := hr _ (List.getElem_mem hlt)
    have htk : s.ths.take (i + 1) = s.ths.take i ++ [s.ths[i]] := by rw [List.take_add_one, hx]; rfl
    generalize s.ths[i] = x at hx r1 r2 htk
    have hlk : (s.ths.take i).length = i := by rw [List.length_take]; omega
    have hlen : (thdsO (s.ths.take i)).length = i := by simp [thdsO]; omega
    have hrl : ∀ X, (thdsO (s.ths.take i) ++ [X])[i]? = some X := fun X => row_last hlen
    have hsl : ∀ X Y, (thdsO (s.ths.take i) ++ [X]).set i Y = thdsO (s.ths.take i) ++ [Y] := fun X Y => set_last hlen
    simp (config := { decide := true }) only [go_sem, Int.reduceToNat, Nat.reduceAdd, Nat.reduceSub, Nat.reduceMul, Nat.reduceBEq, reduceIte, reduceCtorEq, h1, h2, h3, h4, hlt', hx, hlk]
    repeat (with_reducible refine And.intro ?_ ?_; · (with_reducible and_intros) <;> omega)
    refine GQ.step (Ghost.absorb 4 i 1) ?_
    simp (config := { decide := true }) only [go_sem, Int.reduceToNat, Nat.reduceAdd, Nat.reduceSub, Nat.reduceMul, Nat.reduceBEq, reduceIte, reduceCtorEq, hrl, hsl]
    refine GQ.step (Ghost.absorb 4 i 3) ?_
    simp (config := { decide := true }) only [go_sem, Int.reduceToNat, Nat.reduceAdd, Nat.reduceSub, Nat.reduceMul, Nat.reduceBEq, reduceIte, reduceCtorEq, hrl, hsl]
    refine GQ.step (Ghost.trunc [1, 2, 3, 4] 5 (by omega) ?_ ?_) (GQ.done ⟨s.ths.length - (i + 1), by omega, i + 1, rfl, by omega, ?_, ?_, ?_, ?_, ?_⟩)
    · simp (config := { decide := true }) only [go_sem, Nat.reduceBEq, reduceIte, h1, h2, h3]
    · simp (config := { decide := true }) only [go_sem, Nat.reduceBEq, reduceIte]
    iterate 3 simp (config := { decide := true }) only [go_sem, Nat.reduceBEq, reduceIte, h1, h2, h3]
    · simp (config := { decide := true }) only [go_sem, Nat.reduceBEq, reduceIte]; rw [w64 (by omega) (by omega)]; rfl
    · simp (config := { decide := true }) only [go_sem, Int.reduceToNat, Nat.reduceAdd, Nat.reduceSub, Nat.reduceMul, Nat.reduceBEq, reduceIte, reduceCtorEq, htk]
  · have hlt' : ((i : Int) < (s.ths.length : Int)) = False := by rw [int_lt]; simp [hlt]
    have e : i = s.ths.length := by omega
    have htk : s.ths.take i = s.ths := by rw [e, List.take_length]
    simp (config := { decide := true }) only [go_sem, Int.reduceToNat, Nat.reduceAdd, Nat.reduceSub, Nat.reduceMul, Nat.reduceBEq, reduceIte, reduceCtorEq, h1, h2, h3, h4, hlt', htk]
    rw [if_pos e]
end Go.Proofs.Yteieinhgdjjdoaa
namespace Go.Proofs.Yteieinhgdjjdoaa
open Go.RowKit
set_option maxRecDepth 8000
abbrev stpH (x : Stp) : HV := .ag [.v (.int .i64 x.op), .v (.int .i64 x.reg), .v (.int .i64 x.loc), .v (.int .i64 x.n), .v (.int .i64 x.to)]
def stp0 : Stp := ⟨0, 0, 0, 0, 0⟩
theorem refJumps (x : Stp) (eq : Bool) : HFn Try.prog 72 [stpH x, .v (.bool eq)] (.v (.bool (jumpsB x eq))) := by
  refine HCalls_body (fn := Try.f72) 25 [4] (by kernel_rfl) rfl (by kernel_rfl) (HW.run 400 (by kernel_rfl) ?_)
  unfold jumpsB
  by_cases h8 : x.op = 8
  · simp (config := { decide := true }) only [go_sem, Int.reduceToNat, Nat.reduceAdd, Nat.reduceSub, Nat.reduceMul, Nat.reduceBEq, reduceIte, reduceCtorEq, h8]
  by_cases h9 : x.op = 9
  · cases eq <;> simp (config := { decide := true }) only [go_sem, Int.reduceToNat, Nat.reduceAdd, Nat.reduceSub, Nat.reduceMul, Nat.reduceBEq, reduceIte, reduceCtorEq, h9] <;> rfl
  by_cases h10 : x.op = 10
  · cases eq <;> simp (config := { decide := true }) only [go_sem, Int.reduceToNat, Nat.reduceAdd, Nat.reduceSub, Nat.reduceMul, Nat.reduceBEq, reduceIte, reduceCtorEq, h10] <;> rfl
  simp (config := { decide := true }) only [go_sem, Int.reduceToNat, Nat.reduceAdd, Nat.reduceSub, Nat.reduceMul, Nat.reduceBEq, reduceIte, reduceCtorEq, h8, h9, h10]
  exact vb (by simp [h8, h9, h10])
theorem atS_some {p : Prg} {s : Sta} {th : Int} {x : Stp} (h : atS p s th = some x) : 0 ≤ th ∧ th < s.ths.length ∧ ((p.thr[th.toNat]?).getD [])[(thAt s th).pc.toNat]? = some x := by
  unfold atS at h
  split at h
  · rename_i hc; exact ⟨hc.1, hc.2, h⟩
  · cases h
set_option maxHeartbeats 1000000 in
theorem refAt (p : Prg) (s : Sta) (th : Int) (hp : RightP p) (hs : RightS p s) : HFn Try.prog 47 [prgH p, staH s, .v (.int .i64 th)] (.tu [stpH ((atS p s th).getD stp0), .v (.bool (atS p s th).isSome)]) := by
  refine HCalls_bodyC (fn := Try.f47) 46 [.cell 6 44, .tmp 7] (by kernel_rfl) rfl rfl (by kernel_rfl) (HW.run 400 (by kernel_rfl) ?_)
  have hlen := hs.ths
  by_cases c1 : 0 ≤ th
  case neg =>
    have c1' : (th < 0) = True := by simp only [eq_iff_iff, iff_true]; omega
    have e : atS p s th = none := if_neg (fun h => c1 h.1)
    simp (config := { decide := true }) only [go_sem, Int.reduceToNat, Nat.reduceAdd, Nat.reduceSub, Nat.reduceMul, Nat.reduceBEq, reduceIte, reduceCtorEq, e]
    refine HW.quiet 80 follows (by kernel_rfl) ?_
    simp (config := { decide := true }) only [go_sem, Int.reduceToNat, Nat.reduceAdd, Nat.reduceSub, Nat.reduceMul, Nat.reduceBEq, reduceIte, reduceCtorEq, c1']
    rfl
  have c1' : (th < 0) = False := by simp only [eq_iff_iff, iff_false]; omega
  by_cases c2 : th < s.ths.length
  case neg =>
    have c2' : ((s.ths.length : Int) ≤ th) = True := by simp only [eq_iff_iff, iff_true]; omega
    have e : atS p s th = none := if_neg (fun h => c2 h.2)
    simp (config := { decide := true }) only [go_sem, Int.reduceToNat, Nat.reduceAdd, Nat.reduceSub, Nat.reduceMul, Nat.reduceBEq, reduceIte, reduceCtorEq, e]
    refine HW.quiet 80 follows (by kernel_rfl) ?_
    simp (config := { decide := true }) only [go_sem, Int.reduceToNat, Nat.reduceAdd, Nat.reduceSub, Nat.reduceMul, Nat.reduceBEq, reduceIte, reduceCtorEq, c1', c2']
    rfl
  have c2' : ((s.ths.length : Int) ≤ th) = False := by simp only [eq_iff_iff, iff_false]; omega
  obtain ⟨t, rfl⟩ : ∃ t : Nat, th = t := ⟨th.toNat, by omega⟩
  have ht : t < s.ths.length := by omega
  have hx : s.ths[t]? = some s.ths[t] := List.getElem?_eq_getElem ht
  have hy : p.thr[t]? = some (p.thr[t]'(by omega)) := List.getElem?_eq_getElem (by omega)
  obtain ⟨q1, q2, q3⟩ := hs.t t _ _ hy hx
  have e0 : atS p s (t : Int) = (p.thr[t]'(by omega))[(s.ths[t]).pc.toNat]? := by
    unfold atS thAt
    rw [if_pos ⟨c1, c2⟩]
    simp only [Int.toNat_natCast, hx, hy, Option.getD_some]
  generalize s.ths[t] = x at hx q1 q2 q3 e0
  generalize p.thr[t]'(by omega) = l at hy q1 e0
  obtain ⟨k, hk⟩ : ∃ k : Nat, x.pc = k := ⟨x.pc.toNat, by omega⟩
  have hc2 : ((t : Int) < (s.ths.length : Int)) = True := by rw [int_lt]; simp [ht]
  have hc3 : ((t : Int) < (p.thr.length : Int)) = True := by rw [int_lt, ← hlen]; simp [ht]
  rw [hk, Int.toNat_natCast] at e0
  by_cases c3 : k < l.length
  case neg =>
    have c3' : ((l.length : Int) ≤ (k : Int)) = True := by simp only [eq_iff_iff, iff_true]; omega
    rw [List.getElem?_eq_none (by omega)] at e0
    simp (config := { decide := true }) only [go_sem, Int.reduceToNat, Nat.reduceAdd, Nat.reduceSub, Nat.reduceMul, Nat.reduceBEq, reduceIte, reduceCtorEq, e0]
    refine HW.quiet 80 follows (by kernel_rfl) ?_
    simp (config := { decide := true }) only [go_sem, Int.reduceToNat, Nat.reduceAdd, Nat.reduceSub, Nat.reduceMul, Nat.reduceBEq, reduceIte, reduceCtorEq, c1', c2', hx, hy, hc2, hc3, hk, c3']
    rfl
  have c3' : ((l.length : Int) ≤ (k : Int)) = False := by simp only [eq_iff_iff, iff_false]; omega
  have hc4 : ((k : Int) < (l.length : Int)) = True := by rw [int_lt]; simp [c3]
  have hz : l[k]? = some l[k] := List.getElem?_eq_getElem c3
  rw [hz] at e0
  simp (config := { decide := true }) only [go_sem, Int.reduceToNat, Nat.reduceAdd, Nat.reduceSub, Nat.reduceMul, Nat.reduceBEq, reduceIte, reduceCtorEq, e0]
  refine HW.quiet 80 follows (by kernel_rfl) ?_
  simp (config := { decide := true }) only [go_sem, Int.reduceToNat, Nat.reduceAdd, Nat.reduceSub, Nat.reduceMul, Nat.reduceBEq, reduceIte, reduceCtorEq, c1', c2', hx, hy, hc2, hc3, hk, c3']
  refine HW.mixed 80 13 (3, 0) [] follows (by kernel_rfl) (by decide) ?_
  simp (config := { decide := true }) only [go_sem, Int.reduceToNat, Nat.reduceAdd, Nat.reduceSub, Nat.reduceMul, Nat.reduceBEq, reduceIte, reduceCtorEq, c1', c2', hx, hy, hc2, hc3, hk, c3', hc4, hz]
theorem atS_none {p : Prg} {s : Sta} {th : Int} (h : atS p s th = none) : stepS p s th = (s, false) := by unfold stepS; rw [h]
theorem atS_step {p : Prg} {s : Sta} {th : Int} {x : Stp} (h : atS p s th = some x) : stepS p s th = (setTh s th (thStep x s.mem (thAt s th)).1 (thStep x s.mem (thAt s th)).2, true) := by unfold stepS; rw [h]
set_option maxHeartbeats 4000000 in
theorem refStepS (p : Prg) (s : Sta) (th : Int) (hp : RightP p) (hs : RightS p s) (hb : ∀ t ∈ s.ths, t.buf.length ≤ 100000) : HFn Try.prog 59 [prgH p, staH s, .v (.int .i64 th)] (.tu [staO (stepS p s th).1, .v (.bool (stepS p s th).2)]) := by
  refine HCalls_bodyC (fn := Try.f59) 130 [.cell 6 38, .tmp 7] (by kernel_rfl) rfl rfl (by kernel_rfl) (HW.weaken (Q' := fun e => GQ _ _ (endC _ _ _ _ e)) (HW.run 400 (by kernel_rfl) ?_) (fun _ _ _ h => h))
  have hml : s.mem.length ≤ 100000 := by have := hs.mem; have := hp.init; omega
  have htl : s.ths.length ≤ 1000 := by have := hs.ths; have := hp.thr; omega
  have hrl : ∀ t ∈ s.ths, t.regs.length ≤ 100000 ∧ t.buf.length ≤ 100000 := fun t ht => by
    obtain ⟨i, hi⟩ := List.getElem?_of_mem ht
    have hlt := (List.getElem?_eq_some_iff.1 hi).1
    have := (hs.t i _ t (List.getElem?_eq_getElem (show i < p.thr.length by rw [← hs.ths]; exact hlt)) hi).regs
    exact ⟨by omega, hb t ht⟩
  simp (config := { decide := true }) only [go_sem, Int.reduceToNat, Nat.reduceAdd, Nat.reduceSub, Nat.reduceMul, Nat.reduceBEq, reduceIte, reduceCtorEq]
  refine callX_fn 3 (refOwn s hml htl hrl) (by simp only [go_sem]) (by simp only [go_sem]) ?_
  simp (config := { decide := true }) only [go_sem, Int.reduceToNat, Nat.reduceAdd, Nat.reduceSub, Nat.reduceMul, Nat.reduceBEq, reduceIte, reduceCtorEq]
  refine callX_fn 3 (refAt p s th hp hs) (by simp only [go_sem]) rfl ?_
  cases ha : atS p s th with
  | none =>
    rw [atS_none ha]
    simp (config := { decide := true }) only [go_sem, Int.reduceToNat, Nat.reduceAdd, Nat.reduceSub, Nat.reduceMul, Nat.reduceBEq, reduceIte, reduceCtorEq, ha]
    refine GQ.done ?_
    simp (config := { decide := true }) only [go_sem, Int.reduceToNat, Nat.reduceAdd, Nat.reduceSub, Nat.reduceMul, Nat.reduceBEq, reduceIte, reduceCtorEq]
  | some x =>
    rw [atS_step ha]
    obtain ⟨c1, c2, c3⟩ := atS_some ha
    obtain ⟨t, rfl⟩ : ∃ t : Nat, th = t := ⟨th.toNat, by omega⟩
    have ht : t < s.ths.length := by omega
    have hx : s.ths[t]? = some s.ths[t] := List.getElem?_eq_getElem ht
    have htA : thAt s (t : Int) = s.ths[t] := by unfold thAt; rw [Int.toNat_natCast, hx]; rfl
    rw [htA] at c3 ⊢
    generalize s.ths[t] = y at hx c3 ⊢
    have hc2 : ((t : Int) < (s.ths.length : Int)) = True := by rw [int_lt]; simp [ht]
    have hst : ∀ X, ((thdsO s.ths).set t X)[t]? = some X := set_get (by rw [thdsO_length]; exact ht)
    have hyp : y ∈ s.ths := List.mem_of_getElem? hx
    have hpt : p.thr[t]? = some (p.thr[t]'(by have := hs.ths; omega)) := List.getElem?_eq_getElem (by have := hs.ths; omega)
    obtain ⟨q1, q2, q3⟩ := hs.t t _ y hpt hx
    rw [Int.toNat_natCast, hpt, Option.getD_some] at c3
    have hR := hp.x t _ hpt _ _ c3
    generalize p.thr[t]'(by have := hs.ths; omega) = l at hpt q1 c3 hR
    have hll : l.length ≤ 80 := hp.len l (List.mem_of_getElem? hpt)
    have hw : IntKind.i64.wrap (y.pc + 1) = y.pc + 1 := w64 (by omega) (by omega)
    have r1 : (0 ≤ x.reg) = True := by simp only [eq_iff_iff, iff_true]; exact hR.reg.1
    have r2 : (x.reg < (y.regs.length : Int)) = True := by have := hR.reg.2.1; simp only [eq_iff_iff, iff_true]; omega
    have r3 : y.regs[x.reg.toNat]? = some (getI y.regs x.reg) := by
      have : x.reg.toNat < y.regs.length := by have := hR.reg; omega
      unfold getI; rw [List.getElem?_eq_getElem this]; rfl
    have hin := hp.init
    have hmm := hs.mem
    simp (config := { decide := true }) only [go_sem, Int.reduceToNat, Nat.reduceAdd, Nat.reduceSub, Nat.reduceMul, Nat.reduceBEq, reduceIte, reduceCtorEq, ha, hx, hc2, hst, hw]
    refine callX_fn 3 (refJumps x y.eq) (by simp only [go_sem]) rfl ?_
    have hop : x.op = 1 ∨ x.op = 2 ∨ x.op = 3 ∨ x.op = 4 ∨ x.op = 5 ∨ x.op = 6 ∨ x.op = 7 ∨ x.op = 8 ∨ x.op = 9 ∨ x.op = 10 := by have := hR.op; omega
    have locs : hasL x.op = true → (0 ≤ x.loc) = True ∧ (x.loc < (s.mem.length : Int)) = True ∧ s.mem[x.loc.toNat]? = some (getI s.mem x.loc) := fun h => by
      obtain ⟨k1, k2⟩ := hR.loc.1 h
      refine ⟨by simp [k1], by simp only [eq_iff_iff, iff_true]; omega, ?_⟩
      have : x.loc.toNat < s.mem.length := by omega
      unfold getI; rw [List.getElem?_eq_getElem this]; rfl
    rcases hop with h | h | h | h | h | h | h | h | h | h
    · have hj : jumpsB x y.eq = false := by simp [jumpsB, h]
      have e : thStep x s.mem y = (s.mem, { y with pc := y.pc + 1, regs := setI y.regs x.reg x.n }) := by simp [thStep, h, hj]
      simp (config := { decide := true }) only [go_sem, Int.reduceToNat, Nat.reduceAdd, Nat.reduceSub, Nat.reduceMul, Nat.reduceBEq, reduceIte, reduceCtorEq, ha, hx, hc2, hst, hw, h, hj, r1, r2, r3]
      refine GQ.step (Ghost.absorb 4 t 1) ?_
      simp (config := { decide := true }) only [go_sem, Int.reduceToNat, Nat.reduceAdd, Nat.reduceSub, Nat.reduceMul, Nat.reduceBEq, reduceIte, reduceCtorEq, hst]
      refine GQ.step (Ghost.absorb 4 t 3) ?_
      simp (config := { decide := true }) only [go_sem, Int.reduceToNat, Nat.reduceAdd, Nat.reduceSub, Nat.reduceMul, Nat.reduceBEq, reduceIte, reduceCtorEq, hst]
      refine GQ.done ?_
      simp (config := { decide := true }) only [go_sem, Int.reduceToNat, Nat.reduceAdd, Nat.reduceSub, Nat.reduceMul, Nat.reduceBEq, reduceIte, reduceCtorEq, hst]
      rw [e]; rfl
    · have hj : jumpsB x y.eq = false := by simp [jumpsB, h]
      have e : thStep x s.mem y = (s.mem, { y with pc := y.pc + 1, regs := setI y.regs x.reg (getI s.mem x.loc) }) := by simp [thStep, h, hj]
      obtain ⟨m1, m2, m3⟩ := locs (by rw [h]; rfl)
      simp (config := { decide := true }) only [go_sem, Int.reduceToNat, Nat.reduceAdd, Nat.reduceSub, Nat.reduceMul, Nat.reduceBEq, reduceIte, reduceCtorEq, ha, hx, hc2, hst, hw, h, hj, r1, r2, r3, m1, m2, m3]
      refine HW.mixed 80 11 (10, 0) [] follows (by kernel_rfl) (by decide) ?_
      simp (config := { decide := true }) only [go_sem, Int.reduceToNat, Nat.reduceAdd, Nat.reduceSub, Nat.reduceMul, Nat.reduceBEq, reduceIte, reduceCtorEq, ha, hx, hc2, hst, hw, h, hj, r1, r2, r3, m1, m2, m3]
      refine GQ.step (Ghost.absorb 4 t 1) ?_
      simp (config := { decide := true }) only [go_sem, Int.reduceToNat, Nat.reduceAdd, Nat.reduceSub, Nat.reduceMul, Nat.reduceBEq, reduceIte, reduceCtorEq, hst]
      refine GQ.step (Ghost.absorb 4 t 3) ?_
      simp (config := { decide := true }) only [go_sem, Int.reduceToNat, Nat.reduceAdd, Nat.reduceSub, Nat.reduceMul, Nat.reduceBEq, reduceIte, reduceCtorEq, hst]
      refine GQ.done ?_
      simp (config := { decide := true }) only [go_sem, Int.reduceToNat, Nat.reduceAdd, Nat.reduceSub, Nat.reduceMul, Nat.reduceBEq, reduceIte, reduceCtorEq, hst]
      rw [e]; rfl
    · have hj : jumpsB x y.eq = false := by simp [jumpsB, h]
      have e : thStep x s.mem y = (setI s.mem x.loc (getI y.regs x.reg), { y with pc := y.pc + 1 }) := by simp [thStep, h, hj]
      obtain ⟨m1, m2, m3⟩ := locs (by rw [h]; rfl)
      simp (config := { decide := true }) only [go_sem, Int.reduceToNat, Nat.reduceAdd, Nat.reduceSub, Nat.reduceMul, Nat.reduceBEq, reduceIte, reduceCtorEq, ha, hx, hc2, hst, hw, h, hj, r1, r2, r3, m1, m2, m3]
      refine HW.mixed 80 11 (10, 0) [] follows (by kernel_rfl) (by decide) ?_
      simp (config := { decide := true }) only [go_sem, Int.reduceToNat, Nat.reduceAdd, Nat.reduceSub, Nat.reduceMul, Nat.reduceBEq, reduceIte, reduceCtorEq, ha, hx, hc2, hst, hw, h, hj, r1, r2, r3, m1, m2, m3]
      refine GQ.step (Ghost.absorb 4 t 1) ?_
      simp (config := { decide := true }) only [go_sem, Int.reduceToNat, Nat.reduceAdd, Nat.reduceSub, Nat.reduceMul, Nat.reduceBEq, reduceIte, reduceCtorEq, hst]
      refine GQ.step (Ghost.absorb 4 t 3) ?_
      simp (config := { decide := true }) only [go_sem, Int.reduceToNat, Nat.reduceAdd, Nat.reduceSub, Nat.reduceMul, Nat.reduceBEq, reduceIte, reduceCtorEq, hst]
      refine GQ.done ?_
      simp (config := { decide := true }) only [go_sem, Int.reduceToNat, Nat.reduceAdd, Nat.reduceSub, Nat.reduceMul, Nat.reduceBEq, reduceIte, reduceCtorEq, hst]
      rw [e]; rfl
    · have hj : jumpsB x y.eq = false := by simp [jumpsB, h]
      have e : thStep x s.mem y = (setI s.mem x.loc x.n, { y with pc := y.pc + 1 }) := by simp [thStep, h, hj]
      obtain ⟨m1, m2, m3⟩ := locs (by rw [h]; rfl)
      simp (config := { decide := true }) only [go_sem, Int.reduceToNat, Nat.reduceAdd, Nat.reduceSub, Nat.reduceMul, Nat.reduceBEq, reduceIte, reduceCtorEq, ha, hx, hc2, hst, hw, h, hj, r1, r2, r3, m1, m2, m3]
      refine GQ.step (Ghost.absorb 4 t 1) ?_
      simp (config := { decide := true }) only [go_sem, Int.reduceToNat, Nat.reduceAdd, Nat.reduceSub, Nat.reduceMul, Nat.reduceBEq, reduceIte, reduceCtorEq, hst]
      refine GQ.step (Ghost.absorb 4 t 3) ?_
      simp (config := { decide := true }) only [go_sem, Int.reduceToNat, Nat.reduceAdd, Nat.reduceSub, Nat.reduceMul, Nat.reduceBEq, reduceIte, reduceCtorEq, hst]
      refine GQ.done ?_
      simp (config := { decide := true }) only [go_sem, Int.reduceToNat, Nat.reduceAdd, Nat.reduceSub, Nat.reduceMul, Nat.reduceBEq, reduceIte, reduceCtorEq, hst]
      rw [e]; rfl
    · have hj : jumpsB x y.eq = false := by simp [jumpsB, h]
      have e : thStep x s.mem y = (setI s.mem x.loc (getI y.regs x.reg), { y with pc := y.pc + 1, regs := setI y.regs x.reg (getI s.mem x.loc) }) := by simp [thStep, h, hj]
      obtain ⟨m1, m2, m3⟩ := locs (by rw [h]; rfl)
      simp (config := { decide := true }) only [go_sem, Int.reduceToNat, Nat.reduceAdd, Nat.reduceSub, Nat.reduceMul, Nat.reduceBEq, reduceIte, reduceCtorEq, ha, hx, hc2, hst, hw, h, hj, r1, r2, r3, m1, m2, m3]
      refine HW.mixed 80 11 (10, 0) [] follows (by kernel_rfl) (by decide) ?_
      simp (config := { decide := true }) only [go_sem, Int.reduceToNat, Nat.reduceAdd, Nat.reduceSub, Nat.reduceMul, Nat.reduceBEq, reduceIte, reduceCtorEq, ha, hx, hc2, hst, hw, h, hj, r1, r2, r3, m1, m2, m3]
      refine GQ.step (Ghost.absorb 4 t 1) ?_
      simp (config := { decide := true }) only [go_sem, Int.reduceToNat, Nat.reduceAdd, Nat.reduceSub, Nat.reduceMul, Nat.reduceBEq, reduceIte, reduceCtorEq, hst]
      refine GQ.step (Ghost.absorb 4 t 3) ?_
      simp (config := { decide := true }) only [go_sem, Int.reduceToNat, Nat.reduceAdd, Nat.reduceSub, Nat.reduceMul, Nat.reduceBEq, reduceIte, reduceCtorEq, hst]
      refine GQ.done ?_
      simp (config := { decide := true }) only [go_sem, Int.reduceToNat, Nat.reduceAdd, Nat.reduceSub, Nat.reduceMul, Nat.reduceBEq, reduceIte, reduceCtorEq, hst]
      rw [e]; rfl
    · have hj : jumpsB x y.eq = false := by simp [jumpsB, h]
      have e : thStep x s.mem y = (s.mem, { y with pc := y.pc + 1 }) := by simp [thStep, h, hj]
      simp (config := { decide := true }) only [go_sem, Int.reduceToNat, Nat.reduceAdd, Nat.reduceSub, Nat.reduceMul, Nat.reduceBEq, reduceIte, reduceCtorEq, ha, hx, hc2, hst, hw, h, hj, r1, r2, r3]
      refine GQ.step (Ghost.absorb 4 t 1) ?_
      simp (config := { decide := true }) only [go_sem, Int.reduceToNat, Nat.reduceAdd, Nat.reduceSub, Nat.reduceMul, Nat.reduceBEq, reduceIte, reduceCtorEq, hst]
      refine GQ.step (Ghost.absorb 4 t 3) ?_
      simp (config := { decide := true }) only [go_sem, Int.reduceToNat, Nat.reduceAdd, Nat.reduceSub, Nat.reduceMul, Nat.reduceBEq, reduceIte, reduceCtorEq, hst]
      refine GQ.done ?_
      simp (config := { decide := true }) only [go_sem, Int.reduceToNat, Nat.reduceAdd, Nat.reduceSub, Nat.reduceMul, Nat.reduceBEq, reduceIte, reduceCtorEq, hst]
      rw [e]; rfl
    · have hj : jumpsB x y.eq = false := by simp [jumpsB, h]
      have e : thStep x s.mem y = (s.mem, { y with pc := y.pc + 1, eq := decide (getI y.regs x.reg = x.n) }) := by simp [thStep, h, hj]
      simp (config := { decide := true }) only [go_sem, Int.reduceToNat, Nat.reduceAdd, Nat.reduceSub, Nat.reduceMul, Nat.reduceBEq, reduceIte, reduceCtorEq, ha, hx, hc2, hst, hw, h, hj, r1, r2, r3]
      refine HW.mixed 80 10 (10, 0) [] follows (by kernel_rfl) (by decide) ?_
      simp (config := { decide := true }) only [go_sem, Int.reduceToNat, Nat.reduceAdd, Nat.reduceSub, Nat.reduceMul, Nat.reduceBEq, reduceIte, reduceCtorEq, ha, hx, hc2, hst, hw, h, hj, r1, r2, r3]
      refine GQ.step (Ghost.absorb 4 t 1) ?_
      simp (config := { decide := true }) only [go_sem, Int.reduceToNat, Nat.reduceAdd, Nat.reduceSub, Nat.reduceMul, Nat.reduceBEq, reduceIte, reduceCtorEq, hst]
      refine GQ.step (Ghost.absorb 4 t 3) ?_
      simp (config := { decide := true }) only [go_sem, Int.reduceToNat, Nat.reduceAdd, Nat.reduceSub, Nat.reduceMul, Nat.reduceBEq, reduceIte, reduceCtorEq, hst]
      refine GQ.done ?_
      simp (config := { decide := true }) only [go_sem, Int.reduceToNat, Nat.reduceAdd, Nat.reduceSub, Nat.reduceMul, Nat.reduceBEq, reduceIte, reduceCtorEq, hst]
      rw [e]; rfl
    · cases hj : jumpsB x y.eq with
      | false =>
        have e : thStep x s.mem y = (s.mem, { y with pc := y.pc + 1 }) := by simp [thStep, h, hj]
        simp (config := { decide := true }) only [go_sem, Int.reduceToNat, Nat.reduceAdd, Nat.reduceSub, Nat.reduceMul, Nat.reduceBEq, reduceIte, reduceCtorEq, ha, hx, hc2, hst, hw, h, hj, r1, r2, r3]
        refine GQ.step (Ghost.absorb 4 t 1) ?_
        simp (config := { decide := true }) only [go_sem, Int.reduceToNat, Nat.reduceAdd, Nat.reduceSub, Nat.reduceMul, Nat.reduceBEq, reduceIte, reduceCtorEq, hst]
        refine GQ.step (Ghost.absorb 4 t 3) ?_
        simp (config := { decide := true }) only [go_sem, Int.reduceToNat, Nat.reduceAdd, Nat.reduceSub, Nat.reduceMul, Nat.reduceBEq, reduceIte, reduceCtorEq, hst]
        refine GQ.done ?_
        simp (config := { decide := true }) only [go_sem, Int.reduceToNat, Nat.reduceAdd, Nat.reduceSub, Nat.reduceMul, Nat.reduceBEq, reduceIte, reduceCtorEq, hst]
        rw [e]; rfl
      | true =>
        have e : thStep x s.mem y = (s.mem, { y with pc := x.to }) := by simp [thStep, h, hj]
        simp (config := { decide := true }) only [go_sem, Int.reduceToNat, Nat.reduceAdd, Nat.reduceSub, Nat.reduceMul, Nat.reduceBEq, reduceIte, reduceCtorEq, ha, hx, hc2, hst, hw, h, hj, r1, r2, r3]
        refine GQ.step (Ghost.absorb 4 t 1) ?_
        simp (config := { decide := true }) only [go_sem, Int.reduceToNat, Nat.reduceAdd, Nat.reduceSub, Nat.reduceMul, Nat.reduceBEq, reduceIte, reduceCtorEq, hst]
        refine GQ.step (Ghost.absorb 4 t 3) ?_
        simp (config := { decide := true }) only [go_sem, Int.reduceToNat, Nat.reduceAdd, Nat.reduceSub, Nat.reduceMul, Nat.reduceBEq, reduceIte, reduceCtorEq, hst]
        refine GQ.done ?_
        simp (config := { decide := true }) only [go_sem, Int.reduceToNat, Nat.reduceAdd, Nat.reduceSub, Nat.reduceMul, Nat.reduceBEq, reduceIte, reduceCtorEq, hst]
        rw [e]; rfl
    · cases hj : jumpsB x y.eq with
      | false =>
        have e : thStep x s.mem y = (s.mem, { y with pc := y.pc + 1 }) := by simp [thStep, h, hj]
        simp (config := { decide := true }) only [go_sem, Int.reduceToNat, Nat.reduceAdd, Nat.reduceSub, Nat.reduceMul, Nat.reduceBEq, reduceIte, reduceCtorEq, ha, hx, hc2, hst, hw, h, hj, r1, r2, r3]
        refine GQ.step (Ghost.absorb 4 t 1) ?_
        simp (config := { decide := true }) only [go_sem, Int.reduceToNat, Nat.reduceAdd, Nat.reduceSub, Nat.reduceMul, Nat.reduceBEq, reduceIte, reduceCtorEq, hst]
        refine GQ.step (Ghost.absorb 4 t 3) ?_
        simp (config := { decide := true }) only [go_sem, Int.reduceToNat, Nat.reduceAdd, Nat.reduceSub, Nat.reduceMul, Nat.reduceBEq, reduceIte, reduceCtorEq, hst]
        refine GQ.done ?_
        simp (config := { decide := true }) only [go_sem, Int.reduceToNat, Nat.reduceAdd, Nat.reduceSub, Nat.reduceMul, Nat.reduceBEq, reduceIte, reduceCtorEq, hst]
        rw [e]; rfl
      | true =>
        have e : thStep x s.mem y = (s.mem, { y with pc := x.to }) := by simp [thStep, h, hj]
        simp (config := { decide := true }) only [go_sem, Int.reduceToNat, Nat.reduceAdd, Nat.reduceSub, Nat.reduceMul, Nat.reduceBEq, reduceIte, reduceCtorEq, ha, hx, hc2, hst, hw, h, hj, r1, r2, r3]
        refine GQ.step (Ghost.absorb 4 t 1) ?_
        simp (config := { decide := true }) only [go_sem, Int.reduceToNat, Nat.reduceAdd, Nat.reduceSub, Nat.reduceMul, Nat.reduceBEq, reduceIte, reduceCtorEq, hst]
        refine GQ.step (Ghost.absorb 4 t 3) ?_
        simp (config := { decide := true }) only [go_sem, Int.reduceToNat, Nat.reduceAdd, Nat.reduceSub, Nat.reduceMul, Nat.reduceBEq, reduceIte, reduceCtorEq, hst]
        refine GQ.done ?_
        simp (config := { decide := true }) only [go_sem, Int.reduceToNat, Nat.reduceAdd, Nat.reduceSub, Nat.reduceMul, Nat.reduceBEq, reduceIte, reduceCtorEq, hst]
        rw [e]; rfl
    · cases hj : jumpsB x y.eq with
      | false =>
        have e : thStep x s.mem y = (s.mem, { y with pc := y.pc + 1 }) := by simp [thStep, h, hj]
        simp (config := { decide := true }) only [go_sem, Int.reduceToNat, Nat.reduceAdd, Nat.reduceSub, Nat.reduceMul, Nat.reduceBEq, reduceIte, reduceCtorEq, ha, hx, hc2, hst, hw, h, hj, r1, r2, r3]
        refine GQ.step (Ghost.absorb 4 t 1) ?_
        simp (config := { decide := true }) only [go_sem, Int.reduceToNat, Nat.reduceAdd, Nat.reduceSub, Nat.reduceMul, Nat.reduceBEq, reduceIte, reduceCtorEq, hst]
        refine GQ.step (Ghost.absorb 4 t 3) ?_
        simp (config := { decide := true }) only [go_sem, Int.reduceToNat, Nat.reduceAdd, Nat.reduceSub, Nat.reduceMul, Nat.reduceBEq, reduceIte, reduceCtorEq, hst]
        refine GQ.done ?_
        simp (config := { decide := true }) only [go_sem, Int.reduceToNat, Nat.reduceAdd, Nat.reduceSub, Nat.reduceMul, Nat.reduceBEq, reduceIte, reduceCtorEq, hst]
        rw [e]; rfl
      | true =>
        have e : thStep x s.mem y = (s.mem, { y with pc := x.to }) := by simp [thStep, h, hj]
        simp (config := { decide := true }) only [go_sem, Int.reduceToNat, Nat.reduceAdd, Nat.reduceSub, Nat.reduceMul, Nat.reduceBEq, reduceIte, reduceCtorEq, ha, hx, hc2, hst, hw, h, hj, r1, r2, r3]
        refine GQ.step (Ghost.absorb 4 t 1) ?_
        simp (config := { decide := true }) only [go_sem, Int.reduceToNat, Nat.reduceAdd, Nat.reduceSub, Nat.reduceMul, Nat.reduceBEq, reduceIte, reduceCtorEq, hst]
        refine GQ.step (Ghost.absorb 4 t 3) ?_
        simp (config := { decide := true }) only [go_sem, Int.reduceToNat, Nat.reduceAdd, Nat.reduceSub, Nat.reduceMul, Nat.reduceBEq, reduceIte, reduceCtorEq, hst]
        refine GQ.done ?_
        simp (config := { decide := true }) only [go_sem, Int.reduceToNat, Nat.reduceAdd, Nat.reduceSub, Nat.reduceMul, Nat.reduceBEq, reduceIte, reduceCtorEq, hst]
        rw [e]; rfl
end Go.Proofs.Yteieinhgdjjdoaa
