/- The row of ParseTells, out of the law. -/
import Derived.Test.YtmapdjdnnhlpiaaGreatDoorZr06
import Derived.Test.YtmapdjdnnhlpiaaGreatDoorZr16
import Derived.Test.YtmapdjdnnhlpiaaGreatDoorTie
import Derived.Test.YtmapdjdnnhlpiaaGreatDoorCards
import Derived.SevenTiedAt
set_option linter.unusedSectionVars false
set_option linter.unusedVariables false
set_option linter.unusedSimpArgs false
namespace Go.Proofs.YtmapdjdnnhlpiaaGreatDoor.parseTells
open Go.ChangeShapes Go.WideShapes Go.ChangeAt Go.RowKit
open Go.ChangeMaps (open_string shut_string)
set_option maxRecDepth 100000 in
theorem lifted (os:Os) (started:os.Started) (H:Type) (enc:TypeId×Value→H) :
  ReturnsInHanded {} Tryz.checked os 3 .any (fun w args=>(Rows.parseTellsSpec.pre enc Tryz.prog Tryz.f3 [] false w args∧laidMetH Tryz.prog Rows.parseTellsRow.laid w)∧sizedMet enc Tryz.prog Tryz.f3 (OpenSpec.ofChange Rows.parseTellsSpec) false w args)
   (Rows.parseTellsSpec.post enc Tryz.prog Tryz.f3 false true false false):=by
 refine returnsInHanded_laid (C:=Tryz.checked) (X:=fun w _=>laidMetH Tryz.prog Rows.parseTellsRow.laid w) (fun _ _ _ hh h=>h.of_heap hh) rowOwn started (by kernel_rfl) Tryz.func3
  (ChangeSpec.witness_shaped (enc:=enc) (C:=Tryz.checked) (os:=os) (X:=fun w _=>laidMetH Tryz.prog Rows.parseTellsRow.laid w) false (World.doorLaid Tryz.prog 69 os) #[.string ByteArray.empty] 8 rfl (door_shaped os _) (by kernel_rfl) (by kernel_rfl) (by kernel_rfl) (door_met os _)) ?_
 intro W base args ds gs before hval0 hW hcnd hsz0 hsh hL _
 have hval:∀(j:Nat) t v,Tryz.f3.params[j]?=some t→args[j]?=some v→Value.okWide Tryz.prog W .any base t v:=hval0
 have hW':=hW
 obtain ⟨p,q,hA0,hV,rfl,hfz,hnd⟩:=hW
 have hA:DataW.TrodAll enc Tryz.prog W 0 (fun _=>true) true Tryz.f3.params.toList args.toList ds p:=hA0
 rw[Tryz.params3] at hA hval
 obtain ⟨v0,vs0,d0,ds0,p0,q0,hargs,rfl,rfl,h0,r0⟩:=trodAll_cons hA
 obtain ⟨rfl,rfl,rfl⟩:=trodAll_nil r0
 obtain rfl:args = #[v0]:=by cases args;simp_all
 obtain ⟨rfl,rfl⟩:=trodVars_none hV
 have lt:=DataW.TrodAll.lt hA
 obtain ⟨a0,rfl,e0,_,y0⟩:=open_string Tryz.underlying9 (hval 0 9 v0 rfl rfl) h0
 obtain ⟨l0,rfl⟩:∃l,a0=⟨⟨l⟩⟩:=⟨a0.data.toList,rfl⟩
 clear hA0 hval0 hsz0
 refine (HFn.below (parseTellsH l0 ) hsh (ifcs_of_laid hL) [.string ⟨⟨l0⟩⟩] (RL_cons0 (RV_v0 _) RL_nil0)).mono fun e W' ⟨he,bel⟩=>?_
 subst he
 exact ⟨_,rfl,_,_,_,[],_,[],hW',trodAll_mk1 (shut_bool Tryz.underlying4 _),
  (trodAll_cons_mk (Below.trod laidOut (by kernel_rfl) (of_decide_eq_true (by kernel_rfl)) h0 bel (fun x hx=>lt x (by simp[hx]))) trodAll_mk0),rfl,bel.frame _,fun h=>by cases h⟩
theorem over:Rows.parseTellsRow.holds Tryz.pinned (OpenSpec.ofChange Rows.parseTellsSpec) :=
 OpenClaim.holds_of_wide 3 Tryz.f3 rfl rfl rfl rfl rfl rfl rfl ⟨rfl,rfl,rfl,rfl,rfl⟩ rfl rfl rfl rfl rfl (by kernel_rfl) Tryz.func3 (by kernel_rfl)
  (of_decide_eq_true (by kernel_rfl)) (by unfold Func.isWrapper;first | (rw[if_pos (by decide +kernel)];kernel_rfl) | (rw[if_neg (by decide +kernel)];exact ⟨rfl,rfl⟩))
  (fun os started H enc _=>lifted os started H enc)
end Go.Proofs.YtmapdjdnnhlpiaaGreatDoor.parseTells
namespace Go.Proofs.YtmapdjdnnhlpiaaGreatDoor
theorem parseTells_said:Rows.ParseTellsSaid:=parseTells.over
theorem parseTells_holds:Rows.ParseTellsCardSaid :=
 Claim7.holds_tied_plain_at .later [] [.data,.data,.data,.handle,.sentinel,.sentinel] true (true,"5b6d6e8f791f2c7e35b69d3debab49f1ecaea8dc69bf747f340ca83e6ad222e0") true
  parseTells_said (fun _ h=>by cases h) (by kernel_rfl) (fun _ h=>by cases h) parseTells_row_tie rfl ⟨rfl,rfl⟩ (by kernel_rfl) rfl
  (fun f fn hf hfn=>by
   obtain rfl:f=3:=Option.some.inj ((show Tryz.prog.funcNamed "fencepost/fencepostlaw05.ParseTells"=some 3 by kernel_rfl).symm.trans hf) |>.symm
   obtain rfl:fn=Tryz.f3:=(Option.some.inj (Tryz.func3.symm.trans hfn)).symm
   exact ⟨by kernel_rfl,fun j t ht=>by
    rw[Tryz.params3] at ht
    have ht' : t=9:=by
     rcases j with _ | j
     ·exact by simpa using ht.symm
     ·simp at ht
    rcases ht' with rfl
    ·exact (show Tryz.prog.wantsStandIn 9=false by kernel_rfl)⟩)
  (by kernel_rfl)
#print axioms parseTells_holds
end Go.Proofs.YtmapdjdnnhlpiaaGreatDoor
