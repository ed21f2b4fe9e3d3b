/- Part Cr of the engine: functions whose results lie in cells. Built after part S. -/
import Derived.Test.YtcpefnjofekibaaDoorHiS
namespace Go.Proofs.YtcpefnjofekibaaDoor
open Go.RowKit
set_option linter.unusedVariables false
set_option linter.unusedSimpArgs false

section
variable {P : Program} {H : Heap} {K : KT}

theorem rload_hload {t : TypeId} {a : HV} (h : onR (rload P H t a) K) : hload P H t a K := by
  unfold rload at h
  obtain ⟨x, hx, h⟩ := bindO_spec h
  unfold hload; rw [hx]
  unfold rload1 at h
  split at h
  · rename_i id n r o _
    obtain ⟨ob, ho, h⟩ := bindO_spec h
    obtain ⟨row, hr, h⟩ := bindO_spec h
    have hcl : closedAt x H (.pt id n r o) = tvs ((row.drop o).take x.size) := by simp only [closedAt, getO_spec ho, hr]
    unfold rload2 at h
    split at h
    · rename_i ht
      refine ⟨h.1.1, ?_⟩
      rw [hcl, ht, if_pos rfl]
      unfold hloadP
      simp only [getO_spec ho, hr]
      exact ⟨h.1.2.1, h.1.2.2, ht, h.2⟩
    · rename_i ht
      obtain ⟨_, hk, h⟩ := bindO_spec h
      have hk' : okTI x = true := by split at hk; assumption; cases hk
      refine ⟨hk', ?_⟩
      rw [hcl, ht, if_neg (by simp)]
      simp only [openAt]
      unfold rloadP at h
      unfold hloadP
      obtain ⟨ob', ho', h⟩ := bindO_spec h
      obtain ⟨row', hr', h⟩ := bindO_spec h
      simp only [getO_spec ho', hr']
      exact ⟨h.1.1, h.1.2.1, h.1.2.2, h.2⟩
  · rename_i rows i o _
    obtain ⟨row, hr, h⟩ := bindO_spec h
    refine ⟨h.1.1, ?_⟩
    unfold closedAt
    rw [if_pos rfl]
    unfold hloadP
    simp only [hr]
    exact ⟨h.1.2.1, h.1.2.2, h.2⟩
  · exact h.elim

theorem hload_run {t : TypeId} {a : HV} {y : Value} {Z : Nat → Prop} {G : List (Option OG)} {FP : Nat → List Nat} {w : World} (hi : HInv Z G FP H w) (ha : RV Z G w a y []) (h : hload P H t a K) :
    ∃ v x H' G' FP', (do loadVar t (← asAddr y)).run P w = .ok v w ∧ K x H' ∧ RV Z G' w x v [] ∧ HInv Z G' FP' H' w ∧ GLe G G' ∧ Evo Z FP w Z FP' w := by
  have swap : ∀ {v : Value}, (Instr.loadAt t y).run P w = .ok v w → (do loadVar t (← asAddr y)).run P w = .ok v w := by
    intro v hv
    unfold Instr.loadAt at hv
    cases y with
    | pointer p => cases p with
      | some ad => simpa [Instr.sureAddr, asAddr] using hv
      | none => simp [Instr.sureAddr] at hv
    | _ => simp [Instr.sureAddr] at hv
  unfold hload at h
  split at h
  · rename_i x hx
    obtain ⟨hk, h⟩ := h
    split at h
    · obtain ⟨v, h', h1, h2, h3⟩ := hloadP_run hx hk hi ha h
      exact ⟨v, h', H, G, FP, swap h1, h2, h3, hi, GLe.refl _, Evo.refl _ _ _⟩
    · have : ∃ G' FP', HInv Z G' FP' (openAt x H a) w ∧ GLe G G' ∧ Evo Z FP w Z FP' w := by
        unfold openAt
        split
        · exact gopens_inv _ _ _ _ _ hi
        · exact ⟨G, FP, hi, GLe.refl _, Evo.refl _ _ _⟩
      obtain ⟨G', FP', hi', hG, hE⟩ := this
      have ha' := RV.nil_keep (w' := w) (fun _ _ => rfl) (fun _ h => h) hG ha
      obtain ⟨v, h', h1, h2, h3⟩ := hloadP_run hx hk hi' ha' h
      exact ⟨v, h', _, G', FP', swap h1, h2, h3, hi', hG, hE⟩
  · exact h.elim
end

/-- A function's results: of its temporaries, and of cells. -/
def retK (P : Program) : List ResultVar → (Nat → HV) → Heap → (List HV → Heap → Prop) → Prop
  | [], _, H, K => K [] H
  | .tmp i :: r, T, H, K => retK P r T H fun vs H' => K (T i :: vs) H'
  | .cell a t :: r, T, H, K => onR (rload P H t (T a)) fun x H1 => retK P r T H1 fun vs H' => K (x :: vs) H'

def retVs : List HV → HV
  | [x] => x
  | l => .tu l

def endC (P : Program) (rs : List ResultVar) (L : Nat) (Q : HV → Heap → Prop) (e : Exit) (T : Nat → HV) (H : Heap) : Prop :=
  match e with
  | .normal => retK P rs T H fun vs H' => endP L Q (packV L (retVs vs) H')
  | .ret => retK P rs T H fun vs H' => endP L Q (packV L (retVs vs) H')
  | _ => False

def resTmp : ResultVar → Nat
  | .tmp i => i
  | .cell a _ => a

section
variable {P : Program}

theorem run_retK {N : Nat} {tmps : Array Value} {Z : Nat → Prop} {w : World} {T : Nat → HV} : ∀ (rs : List ResultVar) (H : Heap) (K : List HV → Heap → Prop) (G : List (Option OG)) (FP : Nat → List Nat), retK P rs T H K → (∀ r ∈ rs, resTmp r < N) → HInv Z G FP H w → (∀ i, i < N → RV Z G w (T i) (tmps.getD i undef) []) →
    ∃ vs ys H' G' FP', (rs.mapM (m := Sem) fun r => match r with
      | .tmp t => pure (tmps.getD t undef)
      | .cell a t => do loadVar t (← asAddr (tmps.getD a undef))).run P w = .ok ys w ∧ K vs H' ∧ RL Z G' w vs ys [] ∧ vs.length = rs.length ∧ HInv Z G' FP' H' w ∧ GLe G G' ∧ Evo Z FP w Z FP' w
  | [], H, K, G, FP, h, _, hi, _ => ⟨[], [], H, G, FP, by simp, h, by simp [RL], rfl, hi, GLe.refl _, Evo.refl _ _ _⟩
  | .tmp i :: r, H, K, G, FP, h, hok, hi, hs => by
    obtain ⟨vs, ys, H', G', FP', h1, h2, h3, h4, h5, h6, h7⟩ := run_retK r H _ G FP h (fun x hx => hok x (by simp [hx])) hi hs
    refine ⟨T i :: vs, tmps.getD i undef :: ys, H', G', FP', ?_, h2, ?_, by simp [h4], h5, h6, h7⟩
    · rw [List.mapM_cons]
      simp only [Sem.run_bind, Sem.run_pure, Result.andThen_ok, h1]
    · simp only [RL]
      exact ⟨_, _, [], [], rfl, rfl, RV.nil_keep (fun _ _ => rfl) (fun _ h => h) h6 (hs i (hok (.tmp i) (by simp))), h3⟩
  | .cell a t :: r, H, K, G, FP, h, hok, hi, hs => by
    obtain ⟨v, x, H1, G1, FP1, e1, e2, e3, e4, e5, e6⟩ := hload_run hi (hs a (hok (.cell a t) (by simp))) (rload_hload h)
    obtain ⟨vs, ys, H', G', FP', h1, h2, h3, h4, h5, h6, h7⟩ := run_retK r H1 _ G1 FP1 e2 (fun x hx => hok x (by simp [hx])) e4 (fun i hi' => RV.nil_keep (fun _ _ => rfl) (fun _ h => h) e5 (hs i hi'))
    refine ⟨x :: vs, v :: ys, H', G', FP', ?_, h2, ?_, by simp [h4], h5, e5.trans h6, e6.trans h7⟩
    · rw [List.mapM_cons]
      simp only [Sem.run_bind] at e1
      simp only [Sem.run_bind, e1, Sem.run_pure, Result.andThen_ok, h1]
    · simp only [RL]
      exact ⟨_, _, [], [], rfl, rfl, RV.nil_keep (fun _ _ => rfl) (fun _ h => h) h6 e3, h3⟩

theorem run_results {fn : Func} {rs : List ResultVar} {tmps : Array Value} {w : World} {ys : List Value} {vs : List HV} {Z : Nat → Prop} {G : List (Option OG)} (hres : fn.results.toList = rs) (h : (rs.mapM (m := Sem) fun r => match r with
      | .tmp t => pure (tmps.getD t undef)
      | .cell a t => do loadVar t (← asAddr (tmps.getD a undef))).run P w = .ok ys w) (hl : RL Z G w vs ys []) : ∃ v, (results fn tmps).run P w = .ok v w ∧ RV Z G w (retVs vs) v [] := by
  have hrun : (fn.results.mapM (m := Sem) fun r => match r with
      | .tmp t => pure (tmps.getD t undef)
      | .cell a t => do loadVar t (← asAddr (tmps.getD a undef))).run P w = .ok ys.toArray w := by
    rw [Array.mapM_eq_mapM_toList, hres]
    simp only [map_eq_pure_bind, Sem.run_bind, h, Result.andThen_ok, Sem.run_pure]
  unfold results
  simp only [Sem.run_bind]
  erw [hrun]
  simp only [Result.andThen_ok, Sem.run_pure]
  refine ⟨_, rfl, ?_⟩
  have hlen := RL_length _ _ _ hl
  unfold retVs
  split
  · rename_i x
    simp only [RL] at hl
    obtain ⟨y, ys', f1, f2, rfl, hf, h1, h2, _⟩ := hl
    obtain ⟨rfl, rfl⟩ := List.append_eq_nil_iff.1 hf.symm
    subst h2
    simpa using h1
  · rename_i hne
    split
    · rename_i h1'
      exfalso
      have hl1 : vs.length = 1 := by rw [← hlen]; simpa using h1'
      match vs, hl1, hne with
      | [i], _, hne => exact hne i rfl
    · simp only [RV]
      exact ⟨_, rfl, hl⟩

def fnOkC (fn : Func) (N : Nat) (rs : List ResultVar) (k : Nat) : Bool := !(fn.name == "runtime.NumGoroutine") && fn.ntmps == N && rs.all (fun r => decide (resTmp r < N)) && Nat.ble k N

/-- A function's contract, from its body; its results may lie in cells. -/
theorem HCalls_bodyC {f : FuncId} {fn : Func} {c : Code} {H : Heap} {args : List HV} {Q : HV → Heap → Prop} (N : Nat) (rs : List ResultVar) (hf : P.funcs[f]? = some fn) (hb : fn.body = some c) (hres : fn.results.toList = rs) (hok : fnOkC fn N rs args.length = true)
    (h : HW P N H.length c (endC P rs H.length Q) (T0 args) H) : HCalls P f H args Q := by
  simp only [fnOkC, Bool.and_eq_true, beq_iff_eq, Bool.not_eq_true'] at hok
  obtain ⟨⟨⟨hname, hNN⟩, hrlt⟩, hN0⟩ := hok
  subst hNN
  have hN : args.length ≤ fn.ntmps := Nat.le_of_ble_eq_true hN0
  have hrlt : ∀ r ∈ rs, resTmp r < fn.ntmps := fun i hi => by simpa using List.all_eq_true.1 hrlt i hi
  have hne : ¬ fn.name = "runtime.NumGoroutine" := by simpa using hname
  refine ⟨fun vals w => by simp [callFunc, hf, hne, hb], fun Z G FP w vals hi ha => ?_⟩
  refine callsIn_wide.1 (callsIn_of_wp_marks (F := Fence.wide) (n := 0) hf hb trivial ?_)
  have hlen := RL_length _ _ _ ha
  have hsz : (vals.toArray ++ Array.replicate (fn.ntmps - vals.toArray.size) undef).size = fn.ntmps := by simp; omega
  have hst : St fn.ntmps w.heap.size Z G FP [] (T0 args) H { tmps := vals.toArray ++ Array.replicate (fn.ntmps - vals.toArray.size) undef, defers := [] } w :=
    ⟨hi, hsz, T0_spec fn.ntmps ha, rfl, by simp, by simp⟩
  have hlenG : H.length = G.length := hi.len.symm
  refine wpIn_mono (h none 0 w.heap.size Z G FP [] _ w ⟨Nat.le_refl _, by simp⟩ (by omega) hst) ?_
  rintro e a' w' ⟨T', H', Z', G', FP', ds', hend, hs', hG', hE'⟩
  have he : e = .normal ∨ e = .ret := by cases e <;> simp [endC] at hend <;> simp
  have hend' : retK P rs T' H' fun vs H'' => endP H.length Q (packV H.length (retVs vs) H'') := by rcases he with rfl | rfl <;> exact hend
  have goal : LeavesInM Fence.wide 0 P fn a'.tmps (Post Z G FP H w Q) a'.defers .returning w' := by
    rw [hs'.defers]
    refine leaves_marks (ro := none) ds' w' hs'.dsn (fun d hd => (hs'.dsat d hd).2.1) ?_
    intro w2 ho ht hout hsz2 hk
    have hkeep : ∀ b, (Z' b ∨ ∃ id, b ∈ FP' id) → w2.heap[b]? = w'.heap[b]? := by
      intro b hb
      refine hk b fun hc => ?_
      obtain ⟨_, _, h3, h4⟩ := hs'.dsat b hc
      rcases hb with hb | ⟨id, hb⟩
      · exact h3 hb
      · exact h4 id hb
    have hi2 : HInv Z' G' FP' H' w2 := hs'.inv.keep (by omega) hkeep
    obtain ⟨vs, ys, H2, G2, FP2, r1, r2, r3, r4, hi3, hG2, hE3⟩ := run_retK rs H' _ G' FP' hend' hrlt hi2 (fun i hi' => RV.nil_keep (fun b hb => hkeep b (.inl hb)) (fun _ h => h) (GLe.refl _) (hs'.tmps i hi'))
    obtain ⟨hnm, hQ⟩ := r2
    obtain ⟨v, hrun, hv⟩ := run_results (fn := fn) hres r1 r3
    refine ⟨v, hrun, ?_⟩
    obtain ⟨G3, FP3, fr, hp, hrv⟩ := packV_spec (L := H.length) (retVs vs) G2 FP2 H2 v hi3 hv
    have hL3 : H.length ≤ G3.length := by have := hp.le.len; have := hG'.len; have := hG2.len; omega
    have i4 := hp.inv.trunc H.length hnm
    have hE2 : Evo Z FP w Z' FP2 w2 := by
      have : Evo Z FP w Z' FP' w2 := by
        refine ⟨ho.trans hE'.os, ht.trans hE'.tape, hout.trans hE'.output, by rw [hsz2]; exact hE'.size, fun b hb hf => ?_, hE'.zle, hE'.znew, hE'.fnew⟩
        rw [hk b (fun hc => by have := (hs'.dsat b hc).1; omega)]
        exact hE'.keep b hb hf
      exact this.trans hE3
    refine ⟨v, _, _, Z', G3.take H.length, _, fr, rfl, hQ, ?_, i4, hrv, hp.nodup, fun b hb => ?_, fun b hb => ?_, ?_, ?_⟩
    · rw [List.length_take, ← hp.inv.len]; omega
    · obtain ⟨⟨id, h1⟩, h2⟩ := hp.fr b hb
      refine ⟨hi3.zfp id b h1, hi3.flt id b h1, fun j hj => ?_⟩
      split at hj
      · exact h2 j hj
      · simp at hj
    · obtain ⟨⟨id, h1⟩, h2⟩ := hp.fr b hb
      exact hE2.fnew id b h1
    · refine ⟨by simp; omega, fun id hid => ?_⟩
      have hid' : id < H.length := by omega
      rw [take_get hid']
      have hG3 : GLt H.length G' G3 := GLt.of hG'.len (hG2.trans hp.le)
      exact (hG'.trans hG3).at_ id hid'
    · refine ⟨hE2.os, hE2.tape, hE2.output, hE2.size, hE2.keep, hE2.zle, hE2.znew, fun id b hb => ?_⟩
      split at hb
      · exact hE2.fnew id b (hp.fp id b hb)
      · simp at hb
  rcases he with rfl | rfl <;> exact goal
end

section
variable {P : Program} {L : Nat} {T : Nat → HV} {H : Heap} {Q : HV → Heap → Prop} {K : List HV → Heap → Prop}
theorem endC_ret {rs : List ResultVar} : endC P rs L Q .ret T H = retK P rs T H fun vs H' => endP L Q (packV L (retVs vs) H') := rfl
theorem endC_normal {rs : List ResultVar} : endC P rs L Q .normal T H = retK P rs T H fun vs H' => endP L Q (packV L (retVs vs) H') := rfl
theorem retK_nil : retK P [] T H K = K [] H := rfl
theorem retK_tmp {i : Nat} {r : List ResultVar} : retK P (.tmp i :: r) T H K = retK P r T H fun vs H' => K (T i :: vs) H' := rfl
/-- What is loaded at the end. -/
def retL (P : Program) (res : Res) (r : List ResultVar) (T : Nat → HV) (K : List HV → Heap → Prop) : Prop := onR res fun x H1 => retK P r T H1 fun vs H' => K (x :: vs) H'
theorem retK_cell {a : Nat} {t : TypeId} {r : List ResultVar} : retK P (.cell a t :: r) T H K = retL P (rload P H t (T a)) r T K := rfl
theorem retL_rv {p : Prop} {x : HV} {r : List ResultVar} : retL P (rv H p x) r T K = (p ∧ retK P r T H fun vs H' => K (x :: vs) H') := rfl
theorem retL_some {p : Prop} {x : HV} {r : List ResultVar} : retL P (some (p, x, H)) r T K = (p ∧ retK P r T H fun vs H' => K (x :: vs) H') := rfl
theorem retL_congr {res res' : Res} {r : List ResultVar} (h : res = res') : retL P res r T K = retL P res' r T K := by rw [h]
theorem retVs_one {x : HV} : retVs [x] = x := rfl
theorem retVs_more {x y : HV} {l : List HV} : retVs (x :: y :: l) = .tu (x :: y :: l) := rfl
end
attribute [congr] retL_congr
attribute [go_sem] retK_nil retK_tmp retK_cell retL_rv retL_some retVs_one retVs_more
attribute [go_sem] Int.toNat_zero Int.toNat_one
attribute [go_sem ↓] endC_ret endC_normal
end Go.Proofs.YtcpefnjofekibaaDoor
