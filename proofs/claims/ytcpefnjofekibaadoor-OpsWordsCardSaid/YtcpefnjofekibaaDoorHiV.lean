/- Part V of the engine: a range over a function: what an iterator does (HSeq), and the loop over it. -/
import Derived.Test.YtcpefnjofekibaaDoorHiU
import Derived.RangeFuncRecord
namespace Go.Proofs.YtcpefnjofekibaaDoor
open Go.RowKit
set_option linter.unusedVariables false
set_option linter.unusedSimpArgs false

section
variable {Z Z' : Nat → Prop} {w w' : World}

/-- The first objects went their way; the others stand as they stood. -/
theorem HInv.join {G G' : List (Option OG)} {FP FP' : Nat → List Nat} {H H' : Heap} {m : Nat} (h : HInv Z G FP H w) (hml : m ≤ H.length) (h' : HInv Z' G' FP' H' w') (hlen : H'.length = m)
    (hG : GLe (G.take m) G') (hE : Evo Z (fun j => if j < m then FP j else []) w Z' FP' w') :
    HInv Z' (G' ++ G.drop m) (fun j => if j < m then FP' j else FP j) (H' ++ H.drop m) w' ∧ GLe G (G' ++ G.drop m) ∧ Evo Z FP w Z' (fun j => if j < m then FP' j else FP j) w' := by
  have hG'l : G'.length = m := h'.len.trans hlen
  have hGl : m ≤ G.length := by rw [h.len]; exact hml
  have hout : ∀ j, m ≤ j → FP' j = [] := fun j hj => h'.nofp j (fun o ho => by have := (List.getElem?_eq_some_iff.1 ho).1; omega)
  have hle : GLe G (G' ++ G.drop m) := by
    refine ⟨by simp; omega, fun id hid => ?_⟩
    by_cases e : id < m
    · rw [List.getElem?_append_left (by omega)]
      have k := hG.at_ id (by simp; omega)
      simp only [take_get (l := G) e] at k
      exact k
    · right; left
      rw [List.getElem?_append_right (by omega), List.getElem?_drop, hG'l]
      congr 1; omega
  have hZk : ∀ b, Z b → w'.heap[b]? = w.heap[b]? := fun b hb => hE.keep b (h.zlt b hb) (fun id hc => by
    by_cases e : id < m
    · simp only [if_pos e] at hc; exact h.zfp id b hc hb
    · simp [e] at hc)
  have hnot : ∀ j, ¬ j < m → ∀ b, b ∈ FP j → ∀ id, b ∉ (if id < m then FP id else []) := fun j hj b hb id hc => by
    by_cases e : id < m
    · simp only [if_pos e] at hc
      have := h.disj id j b hc hb
      omega
    · simp [e] at hc
  have hkj : ∀ j, ¬ j < m → ∀ b, b ∈ FP j → w'.heap[b]? = w.heap[b]? := fun j hj b hb => hE.keep b (h.flt j b hb) (hnot j hj b hb)
  have hcross : ∀ i j b, ¬ j < m → b ∈ FP' i → b ∈ FP j → False := fun i j b hj hi hb => by
    rcases hE.fnew i b hi with k | ⟨id, k⟩
    · have := h.flt j b hb; omega
    · exact hnot j hj b hb id k
  have get1 : ∀ {j : Nat}, j < m → (H' ++ H.drop m)[j]? = H'[j]? := fun hj => List.getElem?_append_left (by omega)
  have get2 : ∀ {j : Nat}, ¬ j < m → (H' ++ H.drop m)[j]? = H[j]? := fun hj => by
    rw [List.getElem?_append_right (by omega), List.getElem?_drop, hlen]; congr 1; omega
  have gg1 : ∀ {j : Nat}, j < m → (G' ++ G.drop m)[j]? = G'[j]? := fun hj => List.getElem?_append_left (by omega)
  have gg2 : ∀ {j : Nat}, ¬ j < m → (G' ++ G.drop m)[j]? = G[j]? := fun hj => by
    rw [List.getElem?_append_right (by omega), List.getElem?_drop, hG'l]; congr 1; omega
  refine ⟨⟨by simp [hlen, hG'l, h.len], fun j hj => ?_, fun j hj => ?_, fun j o hj => ?_, fun j => ?_, fun i j b hi hj => ?_, h'.zlt, fun j b hb => ?_, fun j b hb => ?_, h'.glob⟩, hle, ⟨hE.os, hE.tape, hE.output, hE.size, fun b hb hf => ?_, hE.zle, fun b hb => ?_, fun j b hb => ?_⟩⟩
  · by_cases e : j < m
    · rw [get1 e] at hj; rw [gg1 e]; exact h'.dead j hj
    · rw [get2 e] at hj; rw [gg2 e]; exact h.dead j hj
  · by_cases e : j < m
    · simp only [if_pos e]; exact h'.nofp j (fun o => by have := hj o; rwa [get1 e] at this)
    · simp only [if_neg e]; exact h.nofp j (fun o => by have := hj o; rwa [get2 e] at this)
  · by_cases e : j < m
    · rw [get1 e] at hj
      obtain ⟨g, hg, hob⟩ := h'.live j o hj
      refine ⟨g, by rw [gg1 e]; exact hg, ?_⟩
      simp only [if_pos e]
      exact hob.keep (fun _ _ => rfl) (fun _ h => h) (GLe.more _) (fun _ _ => rfl)
    · rw [get2 e] at hj
      obtain ⟨g, hg, hob⟩ := h.live j o hj
      refine ⟨g, by rw [gg2 e]; exact hg, ?_⟩
      simp only [if_neg e]
      exact hob.keep hZk hE.zle hle (hkj j e)
  · by_cases e : j < m
    · simp only [if_pos e]; exact h'.nodup j
    · simp only [if_neg e]; exact h.nodup j
  · by_cases e1 : i < m <;> by_cases e2 : j < m
    · simp only [if_pos e1] at hi; simp only [if_pos e2] at hj; exact h'.disj i j b hi hj
    · simp only [if_pos e1] at hi; simp only [if_neg e2] at hj; exact (hcross i j b e2 hi hj).elim
    · simp only [if_neg e1] at hi; simp only [if_pos e2] at hj; exact (hcross j i b e1 hj hi).elim
    · simp only [if_neg e1] at hi; simp only [if_neg e2] at hj; exact h.disj i j b hi hj
  · by_cases e : j < m
    · simp only [if_pos e] at hb; exact h'.flt j b hb
    · simp only [if_neg e] at hb; exact Nat.lt_of_lt_of_le (h.flt j b hb) hE.size
  · by_cases e : j < m
    · simp only [if_pos e] at hb; exact h'.zfp j b hb
    · simp only [if_neg e] at hb
      intro hz
      rcases hE.znew b hz with k | k | ⟨id, k⟩
      · exact h.zfp j b hb k
      · have := h.flt j b hb; omega
      · exact hnot j e b hb id k
  · exact hE.keep b hb (fun id hc => by
      by_cases e : id < m
      · simp only [if_pos e] at hc; exact hf id hc
      · simp [e] at hc)
  · rcases hE.znew b hb with k | k | ⟨id, k⟩
    · exact .inl k
    · exact .inr (.inl k)
    · by_cases e : id < m
      · simp only [if_pos e] at k; exact .inr (.inr ⟨id, k⟩)
      · simp [e] at k
  · by_cases e : j < m
    · simp only [if_pos e] at hb
      rcases hE.fnew j b hb with k | ⟨id, k⟩
      · exact .inl k
      · by_cases e' : id < m
        · simp only [if_pos e'] at k; exact .inr ⟨id, k⟩
        · simp [e'] at k
    · simp only [if_neg e] at hb; exact .inr ⟨j, hb⟩
end

section
variable {P : Program}

/-- The yield of a loop of the first objects' owner, met by code that has objects of its own behind these. -/
theorem HYield.frame {id : Nat} {H : Heap} {args : List HV} {Kb : Bool → Heap → Prop} (m : Nat) (h : HYield P id (H.take m) args Kb) (hid : id < m) (hml : m ≤ H.length) (hnm : nmH m H = true) (hargs : nmL m args = true) :
    HYield P id H args (fun b H' => ∃ Hc, H' = Hc ++ H.drop m ∧ Hc.length = m ∧ Kb b Hc) := by
  intro ro n Z G FP w l vals hi hy ha
  have hmg : m ≤ G.length := by rw [hi.len]; exact hml
  have hi' := hi.trunc m hnm
  have hy' := nm_spec (.yl id) m G _ [] (by simpa [nm] using hid) hy
  have ha' := nmL_spec args m G _ [] hargs ha
  obtain ⟨fn, tmps, assign, body, h1, h2⟩ := h ro n Z _ _ w l vals hi' hy' ha'
  refine ⟨fn, tmps, assign, body, h1, h2.mono ?_⟩
  rintro e w' ⟨v, r, H', Z', G', FP', fr, rfl, ⟨b, rfl, hQ⟩, hlen, hi2, hr, hnd, hfr1, hfr2, hG, hE⟩
  simp only [RV] at hr
  obtain ⟨rfl, rfl⟩ := hr
  have hlm : H'.length = m := by rw [hlen]; simp; omega
  obtain ⟨j1, j2, j3⟩ := hi.join hml hi2 hlm hG hE
  exact ⟨_, .v (.bool b), _, Z', _, _, [], rfl, ⟨b, rfl, H', rfl, hlm, hQ⟩, by simp; omega, j1, by simp [RV], by simp, by simp, by simp, j2, j3⟩

/-- What an iterator does: it hands the rows xs, one by one, to the yield of whoever ranges over it, till that one has enough. Hc: the objects at the call; Hc0: what of them is not its own. -/
def HSeq (P : Program) (gf : Nat) (Hc : Heap) (caps : List HV) (Hc0 : Heap) (xs : List (List HV)) : Prop :=
  ∀ (id : Nat) (J K : Nat → Heap → Prop), id < Hc.length →
    (∀ i H, J i H → H.length = Hc.length ∧ nmH Hc.length H = true) → (∀ i H, K i H → nmH Hc.length H = true) →
    (∀ i x H, xs[i]? = some x → J i H → HYield P id H x (fun b H' => if b = true then J (i + 1) H' else K (i + 1) H')) →
    J 0 Hc0 → HCalls P gf Hc (.yl id :: caps) (fun _ H' => J xs.length H' ∨ ∃ i, K i H')
end
end Go.Proofs.YtcpefnjofekibaaDoor
