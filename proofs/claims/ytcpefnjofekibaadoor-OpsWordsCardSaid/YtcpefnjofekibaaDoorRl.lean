/- The row of OpsWords, out of the law. -/
import Derived.Test.YtcpefnjofekibaaDoorYt
import Derived.Test.YtcpefnjofekibaaDoorYg
import Derived.Test.YtcpefnjofekibaaDoorPi
import Derived.Test.YtcpefnjofekibaaDoorTie
import Derived.Test.YtcpefnjofekibaaDoorCards
import Derived.SevenTiedAt
namespace Go.Proofs.YtcpefnjofekibaaDoor.opsWords
open Go.ChangeShapes Go.WideShapes Go.ChangeAt Go.RowKit
open Go.ChangeMaps (open_string shut_string)
set_option linter.unusedVariables false
set_option maxRecDepth 100000 in
theorem lifted (os : Os) (started : os.Started) (H : Type) (enc : TypeId × Value → H) :
    ReturnsInHanded {} Tryd.checked os 8 .any (fun w args => (Rows.opsWordsSpec.pre enc Tryd.prog Tryd.f8 [] false w args ∧ laidMetH Tryd.prog Rows.opsWordsRow.laid w) ∧ sizedMet enc Tryd.prog Tryd.f8 (OpenSpec.ofChange Rows.opsWordsSpec) false w args)
      (Rows.opsWordsSpec.post enc Tryd.prog Tryd.f8 false true false false) := by
  refine returnsInHanded_laid (C := Tryd.checked) (X := fun w _ => laidMetH Tryd.prog Rows.opsWordsRow.laid w) (fun _ _ _ hh h => h.of_heap hh) rowOwn started (by kernel_rfl) Tryd.func8
    (ChangeSpec.witness_shaped (enc := enc) (C := Tryd.checked) (os := os) (X := fun w _ => laidMetH Tryd.prog Rows.opsWordsRow.laid w) false (World.doorLaid Tryd.prog 62 os) #[.agg #[.int .i64 0, .string ByteArray.empty, .string ByteArray.empty, .string ByteArray.empty, .int .i64 0], .string ByteArray.empty] 8 rfl (door_shaped os _) (by kernel_rfl) (by kernel_rfl) (by kernel_rfl) (door_met os _)) ?_
  intro W base args ds gs before hval0 hW hcnd hsz0 hsh hL _
  have hval : ∀ (j : Nat) t v, Tryd.f8.params[j]? = some t → args[j]? = some v → Value.okWide Tryd.prog W .any base t v := hval0
  have hW' := hW
  obtain ⟨p, q, hA0, hV, rfl, hfz, hnd⟩ := hW
  have hA : DataW.TrodAll enc Tryd.prog W 0 (fun _ => true) true Tryd.f8.params.toList args.toList ds p := hA0
  rw [Tryd.params8] at hA hval
  obtain ⟨v0, vs0, d0, ds0, p0, q0, hargs, rfl, rfl, h0, r0⟩ := trodAll_cons hA
  obtain ⟨v1, vs1, d1, ds1, p1, q1, rfl, rfl, rfl, h1, r1⟩ := trodAll_cons r0
  obtain ⟨rfl, rfl, rfl⟩ := trodAll_nil r1
  obtain rfl : args = #[v0, v1] := by cases args; simp_all
  obtain ⟨rfl, rfl⟩ := trodVars_none hV
  have lt := DataW.TrodAll.lt hA
  obtain ⟨op0, rg0, loc0, lab0, n0, rfl, w0a, w0b⟩ := open_line (hval 0 23 v0 rfl rfl) h0
  obtain ⟨a1, rfl, e1, _, y1⟩ := open_string Tryd.underlying9 (hval 1 9 v1 rfl rfl) h1
  obtain ⟨l1, rfl⟩ : ∃ l, a1 = ⟨⟨l⟩⟩ := ⟨a1.data.toList, rfl⟩
  clear hA0 hval0 hsz0
  refine (HFn.below (opsWords_law op0 rg0 loc0 lab0 n0 l1 (wf_inI w0b)) hsh (ifcs_of_laid hL) [.agg #[.int .i64 op0, str rg0, str loc0, str lab0, .int .i64 n0], .string ⟨⟨l1⟩⟩] (RL_cons0 (RV_ag0 (RL_vs _ _ _ [.int .i64 op0, str rg0, str loc0, str lab0, .int .i64 n0])) (RL_cons0 (RV_v0 _) RL_nil0))).mono fun e W' ⟨he, bel⟩ => ?_
  subst he
  exact ⟨_, rfl, _, _, _, [], _, [], hW', trodAll_mk1 (shut_bool Tryd.underlying4 _),
    (trodAll_cons_mk (Below.trod laidOut (by kernel_rfl) (of_decide_eq_true (by kernel_rfl)) h0 bel (fun x hx => lt x (by simp [hx]))) (trodAll_cons_mk (Below.trod laidOut (by kernel_rfl) (of_decide_eq_true (by kernel_rfl)) h1 bel (fun x hx => lt x (by simp [hx]))) trodAll_mk0)), rfl, bel.frame _, fun h => by cases h⟩
theorem over : Rows.opsWordsRow.holds Tryd.pinned (OpenSpec.ofChange Rows.opsWordsSpec) :=
  OpenClaim.holds_of_wide 8 Tryd.f8 rfl rfl rfl rfl rfl rfl rfl ⟨rfl, rfl, rfl, rfl, rfl⟩ rfl rfl rfl rfl rfl (by kernel_rfl) Tryd.func8 (by kernel_rfl)
    (of_decide_eq_true (by kernel_rfl)) (by unfold Func.isWrapper; first | (rw [if_pos (by decide +kernel)]; kernel_rfl) | (rw [if_neg (by decide +kernel)]; exact ⟨rfl, rfl⟩))
    (fun os started H enc _ => lifted os started H enc)
end Go.Proofs.YtcpefnjofekibaaDoor.opsWords
namespace Go.Proofs.YtcpefnjofekibaaDoor
/-- The row's statement. -/
theorem opsWords_said : Rows.OpsWordsSaid := opsWords.over
/-- The card. -/
theorem opsWords_holds : Rows.OpsWordsCardSaid :=
  Claim7.holds_tied_plain_at .later [] [.data, .data, .data, .sentinel, .sentinel] true (true, "c10108d6a85f1604184aa49f1b2647c7e9b82bbc9047a36d8c07994c4f03470d") true
    opsWords_said (fun _ h => by cases h) (by kernel_rfl) (fun _ h => by cases h) opsWords_row_tie rfl ⟨rfl, rfl⟩ (by kernel_rfl) rfl
    (fun f fn hf hfn => by
      obtain rfl : f = 8 := Option.some.inj ((show Tryd.prog.funcNamed "fencepost/fencepostlaw03.OpsWords" = some 8 by kernel_rfl).symm.trans hf) |>.symm
      obtain rfl : fn = Tryd.f8 := (Option.some.inj (Tryd.func8.symm.trans hfn)).symm
      exact ⟨by kernel_rfl, fun j t ht => by
        rw [Tryd.params8] at ht
        have ht' : t = 23 ∨ t = 9 := by
          rcases j with _ | _ | j
          · exact .inl (by simpa using ht.symm)
          · exact .inr (by simpa using ht.symm)
          · simp at ht
        rcases ht' with rfl | rfl
        · exact (show Tryd.prog.wantsStandIn 23 = false by kernel_rfl)
        · exact (show Tryd.prog.wantsStandIn 9 = false by kernel_rfl)⟩)
    (by kernel_rfl)
#print axioms opsWords_holds
end Go.Proofs.YtcpefnjofekibaaDoor
