/- The row of EncTells, out of the law. -/
import Derived.Test.YtokigghopmopbaaGreatDoorZt06
import Derived.Test.YtokigghopmopbaaGreatDoorZt11
import Derived.Test.YtokigghopmopbaaGreatDoorZt12
import Derived.Test.YtokigghopmopbaaGreatDoorTie
import Derived.Test.YtokigghopmopbaaGreatDoorCards
import Derived.SevenTiedAt
set_option linter.unusedSectionVars false
set_option linter.unusedVariables false
set_option linter.unusedSimpArgs false
namespace Go.Proofs.YtokigghopmopbaaGreatDoor.encTells
open Go.ChangeShapes Go.WideShapes Go.ChangeAt Go.RowKit
open Go.ChangeMaps (open_string shut_string)
set_option maxRecDepth 100000 in
theorem lifted (os : Os) (started : os.Started) (H : Type) (enc : TypeId × Value → H) :
    ReturnsInHanded {} Tryz.checked os 3 .any (fun w args => (Rows.encTellsSpec.pre enc Tryz.prog Tryz.f3 [] false w args ∧ laidMetH Tryz.prog Rows.encTellsRow.laid w) ∧ sizedMet enc Tryz.prog Tryz.f3 (OpenSpec.ofChange Rows.encTellsSpec) false w args)
      (Rows.encTellsSpec.post enc Tryz.prog Tryz.f3 false true false false) := by
  refine returnsInHanded_laid (C := Tryz.checked) (X := fun w _ => laidMetH Tryz.prog Rows.encTellsRow.laid w) (fun _ _ _ hh h => h.of_heap hh) rowOwn started (by kernel_rfl) Tryz.func3
    (ChangeSpec.witness_shaped (enc := enc) (C := Tryz.checked) (os := os) (X := fun w _ => laidMetH Tryz.prog Rows.encTellsRow.laid w) false (World.doorLaid Tryz.prog 100 os) #[.agg #[.slice none 0 0, .slice none 0 0], .slice none 0 0, .string ByteArray.empty] 8 rfl (door_shaped os _) (by kernel_rfl) (by kernel_rfl) (by kernel_rfl) (door_met os _)) ?_
  intro W base args ds gs before hval0 hW hcnd hsz0 hsh hL _
  have hval : ∀ (j : Nat) t v, Tryz.f3.params[j]? = some t → args[j]? = some v → Value.okWide Tryz.prog W .any base t v := hval0
  have hW' := hW
  obtain ⟨p, q, hA0, hV, rfl, hfz, hnd⟩ := hW
  have hA : DataW.TrodAll enc Tryz.prog W 0 (fun _ => true) true Tryz.f3.params.toList args.toList ds p := hA0
  rw [Tryz.params3] at hA hval
  obtain ⟨v0, vs0, d0, ds0, p0, q0, hargs, rfl, rfl, h0, r0⟩ := trodAll_cons hA
  obtain ⟨v1, vs1, d1, ds1, p1, q1, rfl, rfl, rfl, h1, r1⟩ := trodAll_cons r0
  obtain ⟨v2, vs2, d2, ds2, p2, q2, rfl, rfl, rfl, h2, r2⟩ := trodAll_cons r1
  obtain ⟨rfl, rfl, rfl⟩ := trodAll_nil r2
  obtain rfl : args = #[v0, v1, v2] := by cases args; simp_all
  obtain ⟨rfl, rfl⟩ := trodVars_none hV
  have lt := DataW.TrodAll.lt hA
  obtain ⟨l0, g0, f0⟩ := open_sta (Z := fun b => b < W.heap.size) (fun _ h => h) (hval 0 25 v0 rfl rfl) h0
  obtain ⟨l1, g1⟩ := open_ints (Z := fun b => b < W.heap.size) (fun _ h => h) (hval 1 22 v1 rfl rfl) h1
  obtain ⟨a2, rfl, e2, _, y2⟩ := open_string Tryz.underlying9 (hval 2 9 v2 rfl rfl) h2
  obtain ⟨l2, rfl⟩ : ∃ l, a2 = ⟨⟨l⟩⟩ := ⟨a2.data.toList, rfl⟩
  clear hA0 hval0 hsz0
  refine (HFn.below (encTellsH l0 l1 l2 (fitS f0)) hsh (ifcs_of_laid hL) [v0, v1, .string ⟨⟨l2⟩⟩] (RL_cons0 g0 (RL_cons0 g1 (RL_cons0 (RV_v0 _) RL_nil0)))).mono fun e W' ⟨he, bel⟩ => ?_
  subst he
  exact ⟨_, rfl, _, _, _, [], _, [], hW', trodAll_mk1 (shut_bool Tryz.underlying4 _),
    (trodAll_cons_mk (Below.trod laidOut (by kernel_rfl) (of_decide_eq_true (by kernel_rfl)) h0 bel (fun x hx => lt x (by simp [hx]))) (trodAll_cons_mk (Below.trod laidOut (by kernel_rfl) (of_decide_eq_true (by kernel_rfl)) h1 bel (fun x hx => lt x (by simp [hx]))) (trodAll_cons_mk (Below.trod laidOut (by kernel_rfl) (of_decide_eq_true (by kernel_rfl)) h2 bel (fun x hx => lt x (by simp [hx]))) trodAll_mk0))), rfl, bel.frame _, fun h => by cases h⟩
theorem over : Rows.encTellsRow.holds Tryz.pinned (OpenSpec.ofChange Rows.encTellsSpec) :=
  OpenClaim.holds_of_wide 3 Tryz.f3 rfl rfl rfl rfl rfl rfl rfl ⟨rfl, rfl, rfl, rfl, rfl⟩ rfl rfl rfl rfl rfl (by kernel_rfl) Tryz.func3 (by kernel_rfl)
    (of_decide_eq_true (by kernel_rfl)) (by unfold Func.isWrapper; first | (rw [if_pos (by decide +kernel)]; kernel_rfl) | (rw [if_neg (by decide +kernel)]; exact ⟨rfl, rfl⟩))
    (fun os started H enc _ => lifted os started H enc)
end Go.Proofs.YtokigghopmopbaaGreatDoor.encTells
namespace Go.Proofs.YtokigghopmopbaaGreatDoor
theorem encTells_said : Rows.EncTellsSaid := encTells.over
theorem encTells_holds : Rows.EncTellsCardSaid :=
  Claim7.holds_tied_plain_at .later [] [.data, .data, .data, .sentinel, .sentinel, .sentinel, .sentinel] true (true, "23d890af71241b53923db879706bb118d02884bf53d7ed6f03b1dcc2acc2ecec") true
    encTells_said (fun _ h => by cases h) (by kernel_rfl) (fun _ h => by cases h) encTells_row_tie rfl ⟨rfl, rfl⟩ (by kernel_rfl) rfl
    (fun f fn hf hfn => by
      obtain rfl : f = 3 := Option.some.inj ((show Tryz.prog.funcNamed "fencepost/fencepostlaw12.EncTells" = some 3 by kernel_rfl).symm.trans hf) |>.symm
      obtain rfl : fn = Tryz.f3 := (Option.some.inj (Tryz.func3.symm.trans hfn)).symm
      exact ⟨by kernel_rfl, fun j t ht => by
        rw [Tryz.params3] at ht
        have ht' : t = 22 ∨ t = 25 ∨ t = 9 := by
          rcases j with _ | _ | _ | j
          · exact .inr (.inl (by simpa using ht.symm))
          · exact .inl (by simpa using ht.symm)
          · exact .inr (.inr (by simpa using ht.symm))
          · simp at ht
        rcases ht' with rfl | rfl | rfl
        · exact (show Tryz.prog.wantsStandIn 22 = false by kernel_rfl)
        · exact (show Tryz.prog.wantsStandIn 25 = false by kernel_rfl)
        · exact (show Tryz.prog.wantsStandIn 9 = false by kernel_rfl)⟩)
    (by kernel_rfl)
#print axioms encTells_holds
end Go.Proofs.YtokigghopmopbaaGreatDoor
