/- Part U of the engine: a scope in which the run jumps back to one label. -/
import Derived.Test.YtcpefnjofekibaaDoorHiT
import Derived.ScopeJumps
namespace Go.Proofs.YtcpefnjofekibaaDoor
open Go.RowKit
set_option linter.unusedVariables false
set_option linter.unusedSimpArgs false

section
variable {F : Fence} {n : Nat} {P : Program} {Q : Exit → Act → World → Prop} {a : Act} {w : World} {b : Frame} {k : List Go.Item} {cs : List Frame}

theorem stepR_scope {c : Code} : step P (lone (b.atR a (.code (.scope c) :: k)) cs w) = .next (lone (b.atR a (.code c :: .inScope c :: k)) cs w) :=
  step_lone_go (by simp [stepG, stepG.exec, Frame.atR])
theorem stepR_inScope {c : Code} : step P (lone (b.atR a (.inScope c :: k)) cs w) = .next (lone (b.atR a k) cs w) :=
  step_lone_go (by simp [stepG, stepG.exec, Frame.atR])

theorem wpIn_scope_jumps {c rest : Code} (l : Nat) (J : Act → World → Prop) (μ : Act → World → Nat) (hf : findLabel c l = some rest)
    (first : c.wpIn F n P (Exit.jump l J Q) a w)
    (pass : ∀ a w, J a w → rest.wpIn F n P (Exit.jump l (fun a' w' => J a' w' ∧ μ a' w' < μ a w) Q) a w) : (Code.scope c).wpIn F n P Q a w := by
  intro b k cs hro hb hr
  have h0 : (lone (b.atR a (.code (.scope c) :: k)) cs w).fenced P F := fenced_calm hb hr rfl
  have hg : gotoIn l (.inScope c :: k) = some (.code rest :: .inScope c :: k) := by simp [gotoIn, hf]
  have hx : ∀ id, exitTo id (.inScope c :: k) = exitTo id k := fun id => by simp [exitTo]
  have key : ∀ j a w, μ a w = j → J a w → ∃ e a' w', Q e a' w' ∧ ArrivesIn (Machine.fenced P F) P (lone (b.atR a (.code rest :: .inScope c :: k)) cs w) b k cs e a' w' := by
    intro j
    induction j using Nat.strongRecOn with
    | _ j ih =>
      intro a w hj hJ
      obtain ⟨e, a₁, w₁, hq, harr⟩ := pass a w hJ b (.inScope c :: k) cs hro hb hr
      cases e with
      | normal => exact ⟨.normal, a₁, w₁, hq, StepsIn.trans harr (.one (fenced_calm hb hr rfl) stepR_inScope)⟩
      | exit id => exact ⟨.exit id, a₁, w₁, hq, fun k' hk => harr.1 k' (by rw [hx]; exact hk), fun hr' hk => harr.2 hr' (by rw [hx]; exact hk)⟩
      | goto l' =>
        obtain ⟨rfl, hJ', hlt⟩ := hq
        obtain ⟨e₂, a₂, w₂, hq₂, harr₂⟩ := ih _ (by omega) a₁ w₁ rfl hJ'
        exact ⟨e₂, a₂, w₂, hq₂, .of_steps (harr.1 _ hg) harr₂⟩
      | ret => exact ⟨_, a₁, w₁, hq, harr⟩
      | panic ch => exact ⟨_, a₁, w₁, hq, harr⟩
      | outgrown => exact ⟨_, a₁, w₁, hq, harr⟩
  obtain ⟨e, a₁, w₁, hq, harr⟩ := first b (.inScope c :: k) cs hro hb hr
  cases e with
  | normal => exact ⟨.normal, a₁, w₁, hq, .head h0 stepR_scope (StepsIn.trans harr (.one (fenced_calm hb hr rfl) stepR_inScope))⟩
  | exit id => exact ⟨.exit id, a₁, w₁, hq, fun k' hk => .head h0 stepR_scope (harr.1 k' (by rw [hx]; exact hk)), fun hr' hk => let ⟨k₁, h1, h2⟩ := harr.2 hr' (by rw [hx]; exact hk); ⟨k₁, h1, .head h0 stepR_scope h2⟩⟩
  | goto l' =>
    obtain ⟨rfl, hJ'⟩ := hq
    obtain ⟨e₂, a₂, w₂, hq₂, harr₂⟩ := key _ a₁ w₁ rfl hJ'
    exact ⟨e₂, a₂, w₂, hq₂, .of_steps (.head h0 stepR_scope (harr.1 _ hg)) harr₂⟩
  | ret => exact ⟨_, a₁, w₁, hq, .of_steps (.one h0 stepR_scope) harr⟩
  | panic ch => exact ⟨_, a₁, w₁, hq, .of_steps (.one h0 stepR_scope) harr⟩
  | outgrown => exact ⟨_, a₁, w₁, hq, .of_steps (.one h0 stepR_scope) harr⟩
end

/-- By a goto to label l: J; by another: no way out. -/
def jumpQ (l : Nat) (J : KS) (Q : Exit → KS) : Exit → KS
  | .goto l' => fun T H => l' = l ∧ J T H
  | e => Q e

section
variable {P : Program} {N L : Nat} {Q : Exit → KS} {T : Nat → HV} {H : Heap}

theorem jumpQ_goto {l l' : Nat} {J : KS} : jumpQ l J Q (.goto l') T H = (l' = l ∧ J T H) := rfl
theorem jumpQ_normal {l : Nat} {J : KS} : jumpQ l J Q .normal T H = Q .normal T H := rfl
theorem jumpQ_exit {l i : Nat} {J : KS} : jumpQ l J Q (.exit i) T H = Q (.exit i) T H := rfl
theorem jumpQ_ret {l : Nat} {J : KS} : jumpQ l J Q .ret T H = Q .ret T H := rfl

/-- A scope: I k: k bounds the jumps still to come. -/
theorem HW.scope {c rest : Code} (l : Nat) (I : Nat → KS) (hf : findLabel c l = some rest) (first : HW P N L c (jumpQ l (fun T H => ∃ k, I k T H) Q) T H)
    (pass : ∀ k T H, I k T H → HW P N L rest (jumpQ l (fun T' H' => ∃ k', k' < k ∧ I k' T' H') Q) T H) : HW P N L (.scope c) Q T H := by
  intro ro n B Z G FP ds a w hB hL hs
  classical
  let J : Nat → Act → World → Prop := fun k a' w' => ∃ T' H' Z' G' FP' ds', I k T' H' ∧ St N B Z' G' FP' ds' T' H' a' w' ∧ GLt L G G' ∧ Evo Z FP w Z' FP' w'
  let μ : Act → World → Nat := fun a' w' => if h : ∃ k, J k a' w' then Classical.choose (exists_least h) else 0
  refine wpIn_scope_jumps l (fun a' w' => ∃ k, J k a' w') μ hf (wpIn_mono (first ro n B Z G FP ds a w hB hL hs) ?_) ?_
  · rintro e a' w' ⟨T', H', Z', G', FP', ds', h1, h2, h3, h4⟩
    cases e with
    | goto l' => obtain ⟨rfl, k, hk⟩ := h1; exact ⟨rfl, k, T', H', Z', G', FP', ds', hk, h2, h3, h4⟩
    | _ => exact ⟨T', H', Z', G', FP', ds', h1, h2, h3, h4⟩
  · intro a1 w1 hJ
    have hμ : μ a1 w1 = Classical.choose (exists_least hJ) := by simp only [μ]; rw [dif_pos hJ]
    obtain ⟨T1, H1, Z1, G1, FP1, ds1, hI, hs1, hG1, hE1⟩ := (Classical.choose_spec (exists_least hJ)).1
    refine wpIn_mono (pass _ T1 H1 hI ro n B Z1 G1 FP1 ds1 a1 w1 (hB.evo hE1) hG1.len hs1) ?_
    rintro e a' w' ⟨T', H', Z', G', FP', ds', h1, h2, h3, h4⟩
    cases e with
    | goto l' =>
      obtain ⟨rfl, k', hk', hI'⟩ := h1
      have hJ' : J k' a' w' := ⟨T', H', Z', G', FP', ds', hI', h2, hG1.trans h3, hE1.trans h4⟩
      refine ⟨rfl, ⟨k', hJ'⟩, ?_⟩
      rw [hμ]
      have e : ∃ k, J k a' w' := ⟨k', hJ'⟩
      have : μ a' w' = Classical.choose (exists_least e) := by simp only [μ]; rw [dif_pos e]
      rw [this]
      exact Nat.lt_of_le_of_lt ((Classical.choose_spec (exists_least e)).2 _ hJ') hk'
    | _ => exact ⟨T', H', Z', G', FP', ds', h1, h2, hG1.trans h3, hE1.trans h4⟩

/-- The same, with ghosts at the jumps. -/
theorem HW.scopeG {c rest : Code} (l : Nat) (I : Nat → KS) (hf : findLabel c l = some rest) (first : HW P N L c (jumpQ l (GQ N L fun T H => ∃ k, I k T H) Q) T H)
    (pass : ∀ k T H, I k T H → HW P N L rest (jumpQ l (GQ N L fun T' H' => ∃ k', k' < k ∧ I k' T' H') Q) T H) : HW P N L (.scope c) Q T H := by
  have wk : ∀ (J : KS) e T H, jumpQ l (GQ N L J) Q e T H → GQ N L (jumpQ l J Q e) T H := by
    intro J e T H h
    cases e with
    | goto l' =>
      obtain ⟨h1, T', H', g, hr⟩ := h
      exact ⟨T', H', g, h1, hr⟩
    | _ => exact ⟨T, H, Ghost.refl, h⟩
  exact HW.scope l I hf (HW.weaken first (wk _)) (fun k T H h => HW.weaken (pass k T H h) (wk _))
end
attribute [go_sem ↓] jumpQ_goto jumpQ_normal jumpQ_exit jumpQ_ret
end Go.Proofs.YtcpefnjofekibaaDoor
