/- CertHits, whatever the input: it answers true, and what it reads reads as it did. No conditions. -/
import Derived.Test.YtoknohandclcbaaGreatRows
import Derived.Test.YtoknohandclcbaaGreatZc16
import Derived.WalkKit
import Derived.ProofKit
import Derived.OpenShut
import Derived.ShutString
import Derived.ChangeOld
import Derived.Below
import Derived.Carry
import Derived.HandedShaped
set_option linter.unusedSectionVars false
set_option linter.unusedVariables false
set_option linter.unusedSimpArgs false
namespace Go.Proofs.YtoknohandclcbaaGreat.certHits
open Go.ChangeShapes Go.WideShapes Go.ChangeAt Go.RowKit
set_option maxRecDepth 100000 in
theorem zKB (os:Os) (started:os.Started) (H:Type) (enc:TypeId×Value→H) :
  ReturnsInHanded {} Tryz.checked os 6 .any (Rows.certHitsSpec.pre6 enc Tryz.prog Tryz.f6 Rows.certHitsRow.domain false) (Rows.certHitsSpec.post enc Tryz.prog Tryz.f6 false true false false):=by
 refine returnsInHanded_of_change_shaped (C:=Tryz.checked) zR6 started (by kernel_rfl) Tryz.func6
  (ChangeSpec.witness6 (enc:=enc) (C:=Tryz.checked) false ⟨#[],#[.agg #[.slice none 0 0,.slice none 0 0],.agg #[.slice none 0 0,.slice none 0 0,.slice none 0 0,.slice none 0 0,.int .i64 0],.slice none 0 0],[]⟩ 8 (by kernel_rfl) (by kernel_rfl) (by kernel_rfl) (by kernel_rfl)) ?_
 intro W base args ds gs before hval0 hW hcnd hsz0 hsh _
 have hval:∀(j:Nat) t v,Tryz.f6.params[j]?=some t→args[j]?=some v→Value.okWide Tryz.prog W .any base t v:=hval0
 have hW':=hW
 obtain ⟨p,q,hA0,hV,rfl,hfz,hnd⟩:=hW
 have hA:DataW.TrodAll enc Tryz.prog W 0 (fun _=>true) true Tryz.f6.params.toList args.toList ds p:=hA0
 rw[Tryz.params6] at hA hval
 obtain ⟨v0,vs0,d0,ds0,p0,q0,hargs,rfl,rfl,h0,r0⟩:=trodAll_cons hA
 obtain ⟨v1,vs1,d1,ds1,p1,q1,rfl,rfl,rfl,h1,r1⟩:=trodAll_cons r0
 obtain ⟨v2,vs2,d2,ds2,p2,q2,rfl,rfl,rfl,h2,r2⟩:=trodAll_cons r1
 obtain ⟨rfl,rfl,rfl⟩:=trodAll_nil r2
 obtain rfl:args = #[v0,v1,v2]:=by cases args;simp_all
 obtain ⟨rfl,rfl⟩:=trodVars_none hV
 have lt:=DataW.TrodAll.lt hA
 obtain ⟨l0,g0⟩:=zIX (Z:=fun b=>b<W.heap.size) (fun _ h=>h) (hval 0 25 v0 rfl rfl) h0
 obtain ⟨l1,g1⟩:=zIY (Z:=fun b=>b<W.heap.size) (fun _ h=>h) (hval 1 29 v1 rfl rfl) h1
 obtain ⟨l2,g2⟩:=zSO (Z:=fun b=>b<W.heap.size) (fun _ h=>h) (hval 2 22 v2 rfl rfl) h2
 clear hA0 hval0 hsz0
 refine (HFn.below (zUP l0 l1 l2) hsh (zZR W) [v0,v1,v2] (zBF g0 (zBF g1 (zBF g2 zNM)))).mono fun e W' ⟨he,bel⟩=>?_
 subst he
 exact ⟨_,rfl,_,_,_,[],_,[],hW',trodAll_mk1 (shut_bool Tryz.underlying4 _),
  (trodAll_cons_mk (Below.trod zBf (by kernel_rfl) (of_decide_eq_true (by kernel_rfl)) h0 bel (fun x hx=>lt x (by simp[hx]))) (trodAll_cons_mk (Below.trod zBf (by kernel_rfl) (of_decide_eq_true (by kernel_rfl)) h1 bel (fun x hx=>lt x (by simp[hx]))) (trodAll_cons_mk (Below.trod zBf (by kernel_rfl) (of_decide_eq_true (by kernel_rfl)) h2 bel (fun x hx=>lt x (by simp[hx]))) trodAll_mk0))),rfl,bel.frame _,fun h=>by cases h⟩
theorem over:Rows.certHitsRow.holds Tryz.pinned (OpenSpec.ofChange Rows.certHitsSpec) :=
 OpenClaim.holds_of_wide 6 Tryz.f6 rfl rfl rfl rfl rfl rfl rfl ⟨rfl,rfl,rfl,rfl,rfl⟩ rfl rfl rfl rfl rfl (by kernel_rfl) Tryz.func6 (by kernel_rfl)
  (of_decide_eq_true (by kernel_rfl)) (by unfold Func.isWrapper;first | (rw[if_pos (by decide +kernel)];kernel_rfl) | (rw[if_neg (by decide +kernel)];exact ⟨rfl,rfl⟩))
  (fun os started H enc _=>zKB os started H enc)
end Go.Proofs.YtoknohandclcbaaGreat.certHits
namespace Go.Proofs.YtoknohandclcbaaGreat
theorem certHits_holds:Rows.CertHitsSaid:=certHits.over
#print axioms certHits_holds
end Go.Proofs.YtoknohandclcbaaGreat
