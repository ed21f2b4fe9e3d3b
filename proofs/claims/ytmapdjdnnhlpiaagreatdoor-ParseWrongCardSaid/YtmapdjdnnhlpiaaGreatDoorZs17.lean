/- The row of ParseWrong, out of the law. -/
import Derived.Test.YtmapdjdnnhlpiaaGreatDoorZs06
import Derived.Test.YtmapdjdnnhlpiaaGreatDoorZs15
import Derived.Test.YtmapdjdnnhlpiaaGreatDoorZs14
import Derived.Test.YtmapdjdnnhlpiaaGreatDoorTie
import Derived.Test.YtmapdjdnnhlpiaaGreatDoorCards
import Derived.SevenTiedAt
set_option linter.unusedSectionVars false
set_option linter.unusedVariables false
set_option linter.unusedSimpArgs false
namespace Go.Proofs.YtmapdjdnnhlpiaaGreatDoor.parseWrong
open Go.ChangeShapes Go.WideShapes Go.ChangeAt Go.RowKit
open Go.ChangeMaps (open_string shut_string)
set_option maxRecDepth 100000 in
theorem lifted (os:Os) (started:os.Started) (H:Type) (enc:TypeId×Value→H) :
  ReturnsInHanded {} Tryz.checked os 8 .any (fun w args=>(Rows.parseWrongSpec.pre enc Tryz.prog Tryz.f8 [] false w args∧laidMetH Tryz.prog Rows.parseWrongRow.laid w)∧sizedMet enc Tryz.prog Tryz.f8 (OpenSpec.ofChange Rows.parseWrongSpec) false w args)
   (Rows.parseWrongSpec.post enc Tryz.prog Tryz.f8 false true false false):=by
 refine returnsInHanded_laid (C:=Tryz.checked) (X:=fun w _=>laidMetH Tryz.prog Rows.parseWrongRow.laid w) (fun _ _ _ hh h=>h.of_heap hh) rowOwn started (by kernel_rfl) Tryz.func8
  (ChangeSpec.witness_shaped (enc:=enc) (C:=Tryz.checked) (os:=os) (X:=fun w _=>laidMetH Tryz.prog Rows.parseWrongRow.laid w) false (World.doorLaid Tryz.prog 69 os) #[.agg #[.string ByteArray.empty,.slice none 0 0,.slice none 0 0,.bool false,.slice none 0 0]] 8 rfl (door_shaped os _) (by kernel_rfl) (by kernel_rfl) (by kernel_rfl) (door_met os _)) ?_
 intro W base args ds gs before hval0 hW hcnd hsz0 hsh hL _
 have hval:∀(j:Nat) t v,Tryz.f8.params[j]?=some t→args[j]?=some v→Value.okWide Tryz.prog W .any base t v:=hval0
 have hW':=hW
 obtain ⟨p,q,hA0,hV,rfl,hfz,hnd⟩:=hW
 have hA:DataW.TrodAll enc Tryz.prog W 0 (fun _=>true) true Tryz.f8.params.toList args.toList ds p:=hA0
 rw[Tryz.params8] at hA hval
 obtain ⟨v0,vs0,d0,ds0,p0,q0,hargs,rfl,rfl,h0,r0⟩:=trodAll_cons hA
 obtain ⟨rfl,rfl,rfl⟩:=trodAll_nil r0
 obtain rfl:args = #[v0]:=by cases args;simp_all
 obtain ⟨rfl,rfl⟩:=trodVars_none hV
 have lt:=DataW.TrodAll.lt hA
 obtain ⟨l0,g0,f0⟩:=open_fl (Z:=fun b=>b<W.heap.size) (fun _ h=>h) (hval 0 27 v0 rfl rfl) h0
 clear hA0 hval0 hsz0
 refine (HFn.below (parseWrongH l0 f0.i (fun l hl x hx=>(f0.t l hl x hx).2) (fun a ha=>(f0.c a ha).2)) hsh (ifcs_of_laid hL) [v0] (RL_cons0 g0 RL_nil0)).mono fun e W' ⟨he,bel⟩=>?_
 subst he
 exact ⟨_,rfl,_,_,_,[],_,[],hW',trodAll_mk1 (shut_bool Tryz.underlying4 _),
  (trodAll_cons_mk (Below.trod laidOut (by kernel_rfl) (of_decide_eq_true (by kernel_rfl)) h0 bel (fun x hx=>lt x (by simp[hx]))) trodAll_mk0),rfl,bel.frame _,fun h=>by cases h⟩
theorem over:Rows.parseWrongRow.holds Tryz.pinned (OpenSpec.ofChange Rows.parseWrongSpec) :=
 OpenClaim.holds_of_wide 8 Tryz.f8 rfl rfl rfl rfl rfl rfl rfl ⟨rfl,rfl,rfl,rfl,rfl⟩ rfl rfl rfl rfl rfl (by kernel_rfl) Tryz.func8 (by kernel_rfl)
  (of_decide_eq_true (by kernel_rfl)) (by unfold Func.isWrapper;first | (rw[if_pos (by decide +kernel)];kernel_rfl) | (rw[if_neg (by decide +kernel)];exact ⟨rfl,rfl⟩))
  (fun os started H enc _=>lifted os started H enc)
end Go.Proofs.YtmapdjdnnhlpiaaGreatDoor.parseWrong
namespace Go.Proofs.YtmapdjdnnhlpiaaGreatDoor
theorem parseWrong_said:Rows.ParseWrongSaid:=parseWrong.over
theorem parseWrong_holds:Rows.ParseWrongCardSaid :=
 Claim7.holds_tied_plain_at .later [] [.data,.data,.data,.handle,.sentinel,.sentinel] true (true,"5b6d6e8f791f2c7e35b69d3debab49f1ecaea8dc69bf747f340ca83e6ad222e0") true
  parseWrong_said (fun _ h=>by cases h) (by kernel_rfl) (fun _ h=>by cases h) parseWrong_row_tie rfl ⟨rfl,rfl⟩ (by kernel_rfl) rfl
  (fun f fn hf hfn=>by
   obtain rfl:f=8:=Option.some.inj ((show Tryz.prog.funcNamed "fencepost/fencepostlaw05.ParseWrong"=some 8 by kernel_rfl).symm.trans hf) |>.symm
   obtain rfl:fn=Tryz.f8:=(Option.some.inj (Tryz.func8.symm.trans hfn)).symm
   exact ⟨by kernel_rfl,fun j t ht=>by
    rw[Tryz.params8] at ht
    have ht' : t=27:=by
     rcases j with _ | j
     ·exact by simpa using ht.symm
     ·simp at ht
    rcases ht' with rfl
    ·exact (show Tryz.prog.wantsStandIn 27=false by kernel_rfl)⟩)
  (by kernel_rfl)
#print axioms parseWrong_holds
end Go.Proofs.YtmapdjdnnhlpiaaGreatDoor
