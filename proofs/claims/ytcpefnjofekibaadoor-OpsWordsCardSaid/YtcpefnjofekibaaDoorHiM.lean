/- Part M of the engine: what a call gives back is named; a call, as the walk meets it; arguments lent. -/
import Derived.Test.YtcpefnjofekibaaDoorHiL
import Derived.RangeFuncSeq
namespace Go.Proofs.YtcpefnjofekibaaDoor
open Go.RowKit
set_option linter.unusedVariables false
set_option linter.unusedSimpArgs false

mutual
/-- What is owned gets a name. -/
def nameV : HV → Heap → HV × Heap
  | .ow e sz rows, H => (.hd H.length 0 rows.length, H ++ [some ⟨e, sz, rows⟩])
  | .bx e sz row, H => (.pt H.length 1 0 0, H ++ [some ⟨e, sz, [row]⟩])
  | .ag cs, H => (.ag (nameL cs H).1, (nameL cs H).2)
  | .tu cs, H => (.tu (nameL cs H).1, (nameL cs H).2)
  | .fn f cs, H => (.fn f (nameL cs H).1, (nameL cs H).2)
  | .om x hs, H => (.mp H.length, H ++ [some ⟨0, hs.length + 1, [.ob x :: hs]⟩])
  | x, H => (x, H)
def nameL : List HV → Heap → List HV × Heap
  | [], H => ([], H)
  | h :: t, H => ((nameV h H).1 :: (nameL t (nameV h H).2).1, (nameL t (nameV h H).2).2)
end

/-- So much is known of the new state: nothing is owned that was not so before, or in fr. -/
structure Named (Z : Nat → Prop) (G : List (Option OG)) (FP : Nat → List Nat) (w : World) (fr : List Nat) (G' : List (Option OG)) (FP' : Nat → List Nat) (H' : Heap) : Prop where
  inv : HInv Z G' FP' H' w
  le : GLe G G'
  fp : ∀ id b, b ∈ FP' id → b ∈ fr ∨ ∃ id', b ∈ FP id'

section
variable {Z : Nat → Prop} {w : World}

theorem Named.none {G : List (Option OG)} {FP : Nat → List Nat} {H : Heap} {fr : List Nat} (hi : HInv Z G FP H w) : Named Z G FP w fr G FP H :=
  ⟨hi, GLe.refl _, fun id b hb => .inr ⟨id, hb⟩⟩

theorem Named.one {G : List (Option OG)} {FP : Nat → List Nat} {H : Heap} {fr : List Nat} (hi : HInv Z G FP H w) {o : HObj} {gn : OG} (hob : ∀ G', OB Z G' w o gn fr) (hnd : fr.Nodup) (hf : ∀ b ∈ fr, ¬ Z b ∧ b < w.heap.size ∧ ∀ id, b ∉ FP id) :
    Named Z G FP w fr (G ++ [some gn]) (fun j => if j = H.length then fr else FP j) (H ++ [some o]) := by
  refine ⟨hi.new (Nat.le_refl _) (fun _ _ => rfl) (hob _) hnd hf, GLe.more _, fun id b hb => ?_⟩
  by_cases e : id = H.length
  · simp only [if_pos e] at hb; exact .inl hb
  · simp only [if_neg e] at hb; exact .inr ⟨id, hb⟩

mutual
theorem nameV_spec : ∀ (h : HV) (G : List (Option OG)) (FP : Nat → List Nat) (H : Heap) (y : Value) (fr : List Nat), HInv Z G FP H w → RV Z G w h y fr → fr.Nodup → (∀ b ∈ fr, ¬ Z b ∧ b < w.heap.size ∧ ∀ id, b ∉ FP id) →
    ∃ G' FP', Named Z G FP w fr G' FP' (nameV h H).2 ∧ RV Z G' w (nameV h H).1 y []
  | .any, G, FP, H, y, fr, hi, hr, hnd, hf => ⟨G, FP, .none hi, by simp [nameV, RV]⟩
  | .v x, G, FP, H, y, fr, hi, hr, hnd, hf => ⟨G, FP, .none hi, by simp only [RV] at hr; simp [nameV, RV, hr.2]⟩
  | .sl rows, G, FP, H, y, fr, hi, hr, hnd, hf => ⟨G, FP, .none hi, by have := RV_tv _ y fr rfl hr; subst this; exact hr⟩
  | .hd .., G, FP, H, y, fr, hi, hr, hnd, hf => ⟨G, FP, .none hi, by have := RV_tv _ y fr rfl hr; subst this; exact hr⟩
  | .pt .., G, FP, H, y, fr, hi, hr, hnd, hf => ⟨G, FP, .none hi, by have := RV_tv _ y fr rfl hr; subst this; exact hr⟩
  | .fp .., G, FP, H, y, fr, hi, hr, hnd, hf => ⟨G, FP, .none hi, by have := RV_tv _ y fr rfl hr; subst this; exact hr⟩
  | .ic .., G, FP, H, y, fr, hi, hr, hnd, hf => ⟨G, FP, .none hi, by have := RV_tv _ y fr rfl hr; subst this; exact hr⟩
  | .ob _, G, FP, H, y, fr, hi, hr, hnd, hf => by simp only [RV] at hr
  | .mp _, G, FP, H, y, fr, hi, hr, hnd, hf => ⟨G, FP, .none hi, by have := RV_tv _ y fr rfl hr; subst this; exact hr⟩
  | .yl _, G, FP, H, y, fr, hi, hr, hnd, hf => ⟨G, FP, .none hi, by have := RV_tv _ y fr rfl hr; subst this; exact hr⟩
  | .om x hs, G, FP, H, y, fr, hi, hr, hnd, hf => by
    obtain ⟨gn, h1, h2⟩ := om_obj hr
    rw [hi.len] at h2
    exact ⟨_, _, Named.one hi h1 hnd hf, h2⟩
  | .ow e sz rows, G, FP, H, y, fr, hi, hr, hnd, hf => by
    obtain ⟨gn, h1, h2⟩ := ow_obj hr
    rw [hi.len] at h2
    exact ⟨_, _, Named.one hi h1 hnd hf, h2⟩
  | .bx e sz row, G, FP, H, y, fr, hi, hr, hnd, hf => by
    obtain ⟨gn, h1, h2⟩ := bx_obj hr
    rw [hi.len] at h2
    exact ⟨_, _, Named.one hi h1 hnd hf, h2⟩
  | .ag cs, G, FP, H, y, fr, hi, hr, hnd, hf => by
    simp only [RV] at hr
    obtain ⟨ys, rfl, hl⟩ := hr
    obtain ⟨G', FP', h1, h2⟩ := nameL_spec cs G FP H ys.toList fr hi hl hnd hf
    exact ⟨G', FP', h1, by simp only [nameV, RV]; exact ⟨ys, rfl, h2⟩⟩
  | .tu cs, G, FP, H, y, fr, hi, hr, hnd, hf => by
    simp only [RV] at hr
    obtain ⟨ys, rfl, hl⟩ := hr
    obtain ⟨G', FP', h1, h2⟩ := nameL_spec cs G FP H ys.toList fr hi hl hnd hf
    exact ⟨G', FP', h1, by simp only [nameV, RV]; exact ⟨ys, rfl, h2⟩⟩
  | .fn f cs, G, FP, H, y, fr, hi, hr, hnd, hf => by
    simp only [RV] at hr
    obtain ⟨ys, rfl, hl⟩ := hr
    obtain ⟨G', FP', h1, h2⟩ := nameL_spec cs G FP H ys.toList fr hi hl hnd hf
    exact ⟨G', FP', h1, by simp only [nameV, RV]; exact ⟨ys, rfl, h2⟩⟩
theorem nameL_spec : ∀ (l : List HV) (G : List (Option OG)) (FP : Nat → List Nat) (H : Heap) (ys : List Value) (fr : List Nat), HInv Z G FP H w → RL Z G w l ys fr → fr.Nodup → (∀ b ∈ fr, ¬ Z b ∧ b < w.heap.size ∧ ∀ id, b ∉ FP id) →
    ∃ G' FP', Named Z G FP w fr G' FP' (nameL l H).2 ∧ RL Z G' w (nameL l H).1 ys []
  | [], G, FP, H, ys, fr, hi, hr, hnd, hf => by
    simp only [RL] at hr
    exact ⟨G, FP, .none hi, by simp [nameL, RL, hr.1]⟩
  | h :: t, G, FP, H, ys, fr, hi, hr, hnd, hf => by
    simp only [RL] at hr
    obtain ⟨y, ys', f1, f2, rfl, rfl, h1, h2⟩ := hr
    obtain ⟨hn1, hn2, hn3⟩ := List.nodup_append.1 hnd
    obtain ⟨G1, FP1, n1, r1⟩ := nameV_spec h G FP H y f1 hi h1 hn1 (fun b hb => hf b (by simp [hb]))
    obtain ⟨G2, FP2, n2, r2⟩ := nameL_spec t G1 FP1 (nameV h H).2 ys' f2 n1.inv (RL.keep (fun _ _ => rfl) (fun _ h => h) n1.le _ _ _ (fun _ _ => rfl) h2) hn2 (fun b hb => by
      obtain ⟨k1, k2, k3⟩ := hf b (by simp [hb])
      refine ⟨k1, k2, fun id hc => ?_⟩
      rcases n1.fp id b hc with h | ⟨id', h⟩
      · exact hn3 b h b hb rfl
      · exact k3 id' h)
    refine ⟨G2, FP2, ⟨n2.inv, n1.le.trans n2.le, fun id b hb => ?_⟩, ?_⟩
    · rcases n2.fp id b hb with h | ⟨id', h⟩
      · exact .inl (by simp [h])
      · rcases n1.fp id' b h with h | h
        · exact .inl (by simp [h])
        · exact .inr h
    · simp only [nameL, RL]
      exact ⟨y, ys', [], [], rfl, rfl, RV.nil_keep (fun _ _ => rfl) (fun _ h => h) n2.le r1, r2⟩
end
end

section
variable {P : Program} {N L : Nat} {T : Nat → HV} {H : Heap}

theorem callsIn_wd {ro : Option Nat} {n : Nat} {f : FuncId} {args : Array Value} {w : World} {R : Ending → World → Prop} (h : Calls P f args w R) : CallsIn (Wd ro) n P f args w R := by
  cases ro with
  | none => exact callsIn_wide.2 h
  | some l => exact CallsIn.inRound (F := Fence.wide) l (callsIn_wide.2 h)

/-- A call. -/
theorem HO_call {o : Oper} {f : Operand} {args : Array Operand} {tys : Array TypeId} {fid : Nat} {caps : List HV} {K : (Nat → HV) → Heap → Prop} {Q : HV → Heap → Prop}
    (ho : o.op = .call { callee := .value f, args := args, argTypes := tys }) (hok : operOk N o = true) (hf : hev T f = .fn fid caps)
    (hc : HCalls P fid H (args.toList.map (hev T) ++ caps) Q) (hK : ∀ r H', Q r H' → H'.length = H.length → K (updO T o.dst (nameV r H').1) (nameV r H').2) : HO P N L o T H K := by
  intro ro n B Z G FP ds a w hB hL hs next QQ hn
  refine ⟨fun _ _ => trivial, ?_⟩
  rw [semAt_plain _ _ _ (by rw [ho]; intro c; simp)]
  have hfv := hs.hev f (opds_mem hok (by simp [ho, Op.operands, Call.operands]))
  rw [hf] at hfv
  simp only [RV] at hfv
  obtain ⟨cs, hfe, hcl⟩ := hfv
  have hargs : args.toList.all (opdOk N) = true := by
    rw [List.all_eq_true]
    intro x hx
    exact opds_mem hok (by simp [ho, Op.operands, Call.operands]; exact .inr (by simpa using hx))
  have hal := RL_evals hs args.toList hargs
  have hvals : RL Z G w (args.toList.map (hev T) ++ caps) (args.toList.map a.eval ++ cs.toList) [] := (RL_append _ _ _ _).2 ⟨_, _, [], [], rfl, rfl, hal, hcl⟩
  have hrun : (execOp a.eval o).run P w = .ok (.enter fid (args.toList.map a.eval ++ cs.toList).toArray) w := by
    have e : (args.toList.map a.eval ++ cs.toList).toArray = args.map a.eval ++ cs := by
      apply Array.ext'; simp
    rw [e]
    simp only [execOp, ho, resolve, hfe, Deferred.ofValue, Sem.run_bind, Sem.run_pure, Result.andThen_ok, invoke]
    simp [hc.1]
  rw [hrun, Oper.uponIn_enter]
  refine ⟨fun h => by cases ro <;> simp [Wd, Fence.wide] at h, callsIn_wd (Calls.mono (hc.2 Z G FP w _ hs.inv hvals) ?_)⟩
  rintro e w' ⟨v, r, H', Z', G', FP', fr, rfl, hQ, hlen, hi', hr, hnd, hfr1, hfr2, hG, hE⟩
  obtain ⟨G2, FP2, hnm, hrv⟩ := nameV_spec r G' FP' H' v fr hi' hr hnd hfr1
  have hE2 : Evo Z FP w Z' FP2 w' := by
    refine ⟨hE.os, hE.tape, hE.output, hE.size, hE.keep, hE.zle, hE.znew, fun id b hb => ?_⟩
    rcases hnm.fp id b hb with h | ⟨id', h⟩
    · exact hfr2 b h
    · exact hE.fnew id' b h
  refine hn _ _ ⟨_, _, Z', G2, FP2, hK r H' hQ hlen, (hs.evo hnm.inv (hG.trans hnm.le) hE2).put hrv o.dst ?_, GLt.of hL (hG.trans hnm.le), hE2⟩
  intro i hi
  have := hok
  simp only [operOk, dstOk, hi, Bool.and_eq_true, decide_eq_true_eq] at this
  exact this.1

/-- A call of the yield of the loop whose record is the object 'id': it goes on, or not, and K holds of that and of the objects behind it. -/
def HYield (P : Program) (id : Nat) (H : Heap) (args : List HV) (K : Bool → Heap → Prop) : Prop :=
  ∀ ro m Z G FP w l vals, HInv Z G FP H w → RV Z G w (.yl id) (.func (.yield l) #[] #[]) [] → RL Z G w args vals [] →
    YieldAt (Wd ro) m P l vals.toArray w (Post Z G FP H w (fun r H' => ∃ b, r = .v (.bool b) ∧ K b H'))

theorem HO_yield {o : Oper} {f : Operand} {args : Array Operand} {tys : Array TypeId} {id : Nat} {K : (Nat → HV) → Heap → Prop} {Q : Bool → Heap → Prop}
    (ho : o.op = .call { callee := .value f, args := args, argTypes := tys }) (hok : operOk N o = true) (hf : hev T f = .yl id)
    (hc : HYield P id H (args.toList.map (hev T)) Q) (hK : ∀ b H', Q b H' → H'.length = H.length → K (updO T o.dst (.v (.bool b))) H') : HO P N L o T H K := by
  intro ro n B Z G FP ds a w hB hL hs next QQ hn
  refine ⟨fun _ _ => trivial, ?_⟩
  rw [semAt_plain _ _ _ (by rw [ho]; intro c; simp)]
  have hfv := hs.hev f (opds_mem hok (by simp [ho, Op.operands, Call.operands]))
  rw [hf] at hfv
  have hfv' := hfv
  simp only [RV] at hfv
  obtain ⟨_, _, l, hfe, _⟩ := hfv
  rw [hfe] at hfv'
  have hargs : args.toList.all (opdOk N) = true := by
    rw [List.all_eq_true]
    intro x hx
    exact opds_mem hok (by simp [ho, Op.operands, Call.operands]; exact .inr (by simpa using hx))
  have hal := RL_evals hs args.toList hargs
  obtain ⟨fn, tmps, assign, body, hy, hR⟩ := hc ro (n - 1) Z G FP w l _ hs.inv hfv' hal
  have hrun : (execOp a.eval o).run P w = .ok (.round l fn tmps assign body) w := by
    have e : (args.toList.map a.eval).toArray = args.map a.eval := by
      apply Array.ext'; simp
    rw [e] at hy
    simp only [execOp, ho, resolve, hfe, Deferred.ofValue, Sem.run_bind, Sem.run_pure, Result.andThen_ok, invoke]
    simpa using hy
  rw [hrun, Oper.uponIn_round]
  refine ⟨fun h => by cases ro <;> simp [Wd, Fence.wide] at h, hR.mono ?_⟩
  rintro e w' ⟨v, r, H', Z', G', FP', fr, rfl, ⟨b, rfl, hQ⟩, hlen, hi', hr, hnd, hfr1, hfr2, hG, hE⟩
  simp only [RV] at hr
  obtain ⟨rfl, rfl⟩ := hr
  refine hn _ _ ⟨_, H', Z', G', FP', hK b H' hQ hlen, (hs.evo hi' hG hE).put (by simp [RV]) o.dst ?_, GLt.of hL hG, hE⟩
  intro i hi
  have := hok
  simp only [operOk, dstOk, hi, Bool.and_eq_true, decide_eq_true_eq] at this
  exact this.1
end
end Go.Proofs.YtcpefnjofekibaaDoor
