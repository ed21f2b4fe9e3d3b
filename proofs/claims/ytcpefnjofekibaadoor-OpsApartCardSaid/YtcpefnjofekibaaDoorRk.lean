/- The row of OpsApart, out of the law. -/
import Derived.Test.YtcpefnjofekibaaDoorYt
import Derived.Test.YtcpefnjofekibaaDoorYg
import Derived.Test.YtcpefnjofekibaaDoorPf
import Derived.Test.YtcpefnjofekibaaDoorTie
import Derived.Test.YtcpefnjofekibaaDoorCards
import Derived.SevenTiedAt
namespace Go.Proofs.YtcpefnjofekibaaDoor.opsApart
open Go.ChangeShapes Go.WideShapes Go.ChangeAt Go.RowKit
open Go.ChangeMaps (open_string shut_string)
set_option linter.unusedVariables false
set_option maxRecDepth 100000 in
theorem lifted (os : Os) (started : os.Started) (H : Type) (enc : TypeId × Value → H) :
    ReturnsInHanded {} Tryd.checked os 6 .any (fun w args => (Rows.opsApartSpec.pre enc Tryd.prog Tryd.f6 [] false w args ∧ laidMetH Tryd.prog Rows.opsApartRow.laid w) ∧ sizedMet enc Tryd.prog Tryd.f6 (OpenSpec.ofChange Rows.opsApartSpec) false w args)
      (Rows.opsApartSpec.post enc Tryd.prog Tryd.f6 false true false false) := by
  refine returnsInHanded_laid (C := Tryd.checked) (X := fun w _ => laidMetH Tryd.prog Rows.opsApartRow.laid w) (fun _ _ _ hh h => h.of_heap hh) rowOwn started (by kernel_rfl) Tryd.func6
    (ChangeSpec.witness_shaped (enc := enc) (C := Tryd.checked) (os := os) (X := fun w _ => laidMetH Tryd.prog Rows.opsApartRow.laid w) false (World.doorLaid Tryd.prog 62 os) #[.agg #[.int .i64 0, .string ByteArray.empty, .string ByteArray.empty, .string ByteArray.empty, .int .i64 0], .agg #[.int .i64 0, .string ByteArray.empty, .string ByteArray.empty, .string ByteArray.empty, .int .i64 0], .agg #[.int .i64 0, .string ByteArray.empty, .int .i64 0], .agg #[.int .i64 0, .string ByteArray.empty, .int .i64 0]] 8 rfl (door_shaped os _) (by kernel_rfl) (by kernel_rfl) (by kernel_rfl) (door_met os _)) ?_
  intro W base args ds gs before hval0 hW hcnd hsz0 hsh hL _
  have hval : ∀ (j : Nat) t v, Tryd.f6.params[j]? = some t → args[j]? = some v → Value.okWide Tryd.prog W .any base t v := hval0
  have hW' := hW
  obtain ⟨p, q, hA0, hV, rfl, hfz, hnd⟩ := hW
  have hA : DataW.TrodAll enc Tryd.prog W 0 (fun _ => true) true Tryd.f6.params.toList args.toList ds p := hA0
  rw [Tryd.params6] at hA hval
  obtain ⟨v0, vs0, d0, ds0, p0, q0, hargs, rfl, rfl, h0, r0⟩ := trodAll_cons hA
  obtain ⟨v1, vs1, d1, ds1, p1, q1, rfl, rfl, rfl, h1, r1⟩ := trodAll_cons r0
  obtain ⟨v2, vs2, d2, ds2, p2, q2, rfl, rfl, rfl, h2, r2⟩ := trodAll_cons r1
  obtain ⟨v3, vs3, d3, ds3, p3, q3, rfl, rfl, rfl, h3, r3⟩ := trodAll_cons r2
  obtain ⟨rfl, rfl, rfl⟩ := trodAll_nil r3
  obtain rfl : args = #[v0, v1, v2, v3] := by cases args; simp_all
  obtain ⟨rfl, rfl⟩ := trodVars_none hV
  have lt := DataW.TrodAll.lt hA
  obtain ⟨op0, rg0, loc0, lab0, n0, rfl, w0a, w0b⟩ := open_line (hval 0 23 v0 rfl rfl) h0
  obtain ⟨op1, rg1, loc1, lab1, n1, rfl, w1a, w1b⟩ := open_line (hval 1 23 v1 rfl rfl) h1
  obtain ⟨th2, nm2, n2, rfl, w2a, w2b⟩ := open_atom (hval 2 26 v2 rfl rfl) h2
  obtain ⟨th3, nm3, n3, rfl, w3a, w3b⟩ := open_atom (hval 3 26 v3 rfl rfl) h3
  clear hA0 hval0 hsz0
  refine (HFn.below (opsApart_law op0 rg0 loc0 lab0 n0 op1 rg1 loc1 lab1 n1 th2 nm2 n2 th3 nm3 n3 (wf_inI w0b) (wf_inI w1b) (wf_inI w2a) (wf_inI w2b) (wf_inI w3a) (wf_inI w3b)) hsh (ifcs_of_laid hL) [.agg #[.int .i64 op0, str rg0, str loc0, str lab0, .int .i64 n0], .agg #[.int .i64 op1, str rg1, str loc1, str lab1, .int .i64 n1], .agg #[.int .i64 th2, str nm2, .int .i64 n2], .agg #[.int .i64 th3, str nm3, .int .i64 n3]] (RL_cons0 (RV_ag0 (RL_vs _ _ _ [.int .i64 op0, str rg0, str loc0, str lab0, .int .i64 n0])) (RL_cons0 (RV_ag0 (RL_vs _ _ _ [.int .i64 op1, str rg1, str loc1, str lab1, .int .i64 n1])) (RL_cons0 (RV_ag0 (RL_vs _ _ _ [.int .i64 th2, str nm2, .int .i64 n2])) (RL_cons0 (RV_ag0 (RL_vs _ _ _ [.int .i64 th3, str nm3, .int .i64 n3])) RL_nil0))))).mono fun e W' ⟨he, bel⟩ => ?_
  subst he
  exact ⟨_, rfl, _, _, _, [], _, [], hW', trodAll_mk1 (shut_bool Tryd.underlying4 _),
    (trodAll_cons_mk (Below.trod laidOut (by kernel_rfl) (of_decide_eq_true (by kernel_rfl)) h0 bel (fun x hx => lt x (by simp [hx]))) (trodAll_cons_mk (Below.trod laidOut (by kernel_rfl) (of_decide_eq_true (by kernel_rfl)) h1 bel (fun x hx => lt x (by simp [hx]))) (trodAll_cons_mk (Below.trod laidOut (by kernel_rfl) (of_decide_eq_true (by kernel_rfl)) h2 bel (fun x hx => lt x (by simp [hx]))) (trodAll_cons_mk (Below.trod laidOut (by kernel_rfl) (of_decide_eq_true (by kernel_rfl)) h3 bel (fun x hx => lt x (by simp [hx]))) trodAll_mk0)))), rfl, bel.frame _, fun h => by cases h⟩
theorem over : Rows.opsApartRow.holds Tryd.pinned (OpenSpec.ofChange Rows.opsApartSpec) :=
  OpenClaim.holds_of_wide 6 Tryd.f6 rfl rfl rfl rfl rfl rfl rfl ⟨rfl, rfl, rfl, rfl, rfl⟩ rfl rfl rfl rfl rfl (by kernel_rfl) Tryd.func6 (by kernel_rfl)
    (of_decide_eq_true (by kernel_rfl)) (by unfold Func.isWrapper; first | (rw [if_pos (by decide +kernel)]; kernel_rfl) | (rw [if_neg (by decide +kernel)]; exact ⟨rfl, rfl⟩))
    (fun os started H enc _ => lifted os started H enc)
end Go.Proofs.YtcpefnjofekibaaDoor.opsApart
namespace Go.Proofs.YtcpefnjofekibaaDoor
/-- The row's statement. -/
theorem opsApart_said : Rows.OpsApartSaid := opsApart.over
/-- The card. -/
theorem opsApart_holds : Rows.OpsApartCardSaid :=
  Claim7.holds_tied_plain_at .later [] [.data, .data, .data, .sentinel, .sentinel] true (true, "c10108d6a85f1604184aa49f1b2647c7e9b82bbc9047a36d8c07994c4f03470d") true
    opsApart_said (fun _ h => by cases h) (by kernel_rfl) (fun _ h => by cases h) opsApart_row_tie rfl ⟨rfl, rfl⟩ (by kernel_rfl) rfl
    (fun f fn hf hfn => by
      obtain rfl : f = 6 := Option.some.inj ((show Tryd.prog.funcNamed "fencepost/fencepostlaw03.OpsApart" = some 6 by kernel_rfl).symm.trans hf) |>.symm
      obtain rfl : fn = Tryd.f6 := (Option.some.inj (Tryd.func6.symm.trans hfn)).symm
      exact ⟨by kernel_rfl, fun j t ht => by
        rw [Tryd.params6] at ht
        have ht' : t = 26 ∨ t = 23 := by
          rcases j with _ | _ | _ | _ | j
          · exact .inr (by simpa using ht.symm)
          · exact .inr (by simpa using ht.symm)
          · exact .inl (by simpa using ht.symm)
          · exact .inl (by simpa using ht.symm)
          · simp at ht
        rcases ht' with rfl | rfl
        · exact (show Tryd.prog.wantsStandIn 26 = false by kernel_rfl)
        · exact (show Tryd.prog.wantsStandIn 23 = false by kernel_rfl)⟩)
    (by kernel_rfl)
#print axioms opsApart_holds
end Go.Proofs.YtcpefnjofekibaaDoor
