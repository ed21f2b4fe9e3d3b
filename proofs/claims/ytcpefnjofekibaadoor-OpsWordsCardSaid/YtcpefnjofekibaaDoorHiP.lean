/- Part P of the engine: what a function gives back; a function's contract from its body. -/
import Derived.Test.YtcpefnjofekibaaDoorHiO
namespace Go.Proofs.YtcpefnjofekibaaDoor
open Go.RowKit
set_option linter.unusedVariables false
set_option linter.unusedSimpArgs false

mutual
/-- What is given back: objects that are new are owned; those below L are named. -/
def packV (L : Nat) : HV → Heap → HV × Heap
  | .hd id off len, H =>
    if id < L then (.hd id off len, H)
    else match H[id]? with
      | some (some ob) => if off = 0 ∧ len = ob.rows.length ∧ nmR 0 ob.rows = true then (.ow ob.e ob.sz ob.rows, H.set id none) else (.any, H)
      | _ => (.any, H)
  | .pt id n r o, H =>
    if id < L then (.pt id n r o, H)
    else match H[id]? with
      | some (some ob) =>
        match ob.rows with
        | [row] => if n = 1 ∧ r = 0 ∧ o = 0 ∧ nmL 0 row = true then (.bx ob.e ob.sz row, H.set id none) else (.any, H)
        | _ => (.any, H)
      | _ => (.any, H)
  | .ag cs, H => (.ag (packL L cs H).1, (packL L cs H).2)
  | .tu cs, H => (.tu (packL L cs H).1, (packL L cs H).2)
  | .fn f cs, H => (.fn f (packL L cs H).1, (packL L cs H).2)
  | .ic t x, H => if nm L x = true then (.ic t x, H) else (.any, H)
  | .mp id, H =>
    if id < L then (.mp id, H)
    else match H[id]? with
      | some (some ob) =>
        match ob.rows with
        | [.ob x :: hs] => if nmL 0 hs = true then (.om x hs, H.set id none) else (.any, H)
        | _ => (.any, H)
      | _ => (.any, H)
  | .yl id, H => if id < L then (.yl id, H) else (.any, H)
  | x, H => (x, H)
def packL (L : Nat) : List HV → Heap → List HV × Heap
  | [], H => ([], H)
  | h :: t, H => ((packV L h H).1 :: (packL L t (packV L h H).2).1, (packL L t (packV L h H).2).2)
end

theorem GLe.take {G G' : List (Option OG)} (h : GLe G G') (m : Nat) : GLe (G.take m) (G'.take m) := by
  refine ⟨by have := h.len; simp; omega, fun id hid => ?_⟩
  have h1 : id < m := by simp at hid; omega
  have h2 : id < G.length := by simp at hid; omega
  rw [take_get h1, take_get h1]
  exact h.at_ id h2

/-- What packing leaves. -/
structure Packed (Z : Nat → Prop) (G : List (Option OG)) (FP : Nat → List Nat) (w : World) (fr : List Nat) (G' : List (Option OG)) (FP' : Nat → List Nat) (H' : Heap) : Prop where
  inv : HInv Z G' FP' H' w
  le : GLe G G'
  nodup : fr.Nodup
  fr : ∀ b ∈ fr, (∃ id, b ∈ FP id) ∧ ∀ id, b ∉ FP' id
  fp : ∀ id b, b ∈ FP' id → b ∈ FP id

section
variable {Z : Nat → Prop} {w : World}

theorem Packed.nil {G : List (Option OG)} {FP : Nat → List Nat} {H : Heap} (hi : HInv Z G FP H w) : Packed Z G FP w [] G FP H :=
  ⟨hi, GLe.refl _, by simp, by simp, fun _ _ h => h⟩

theorem Packed.kill {G : List (Option OG)} {FP : Nat → List Nat} {H : Heap} (hi : HInv Z G FP H w) (id : Nat) : Packed Z G FP w (FP id) (G.set id none) (fun j => if j = id then [] else FP j) (H.set id none) := by
  refine ⟨hi.kill id, GLe.kill id, hi.nodup id, fun b hb => ⟨⟨id, hb⟩, fun j hj => ?_⟩, fun j b hb => ?_⟩
  · by_cases e : j = id
    · simp [e] at hj
    · simp only [if_neg e] at hj; exact e (hi.disj j id b hj hb)
  · by_cases e : j = id
    · simp [e] at hb
    · simpa only [if_neg e] using hb

mutual
theorem packV_spec {L : Nat} : ∀ (h : HV) (G : List (Option OG)) (FP : Nat → List Nat) (H : Heap) (y : Value), HInv Z G FP H w → RV Z G w h y [] →
    ∃ G' FP' fr, Packed Z G FP w fr G' FP' (packV L h H).2 ∧ RV Z (G'.take L) w (packV L h H).1 y fr
  | .any, G, FP, H, y, hi, hr => ⟨G, FP, [], .nil hi, by simp [packV, RV]⟩
  | .v x, G, FP, H, y, hi, hr => ⟨G, FP, [], .nil hi, by simpa only [packV, RV] using hr⟩
  | .sl rows, G, FP, H, y, hi, hr => ⟨G, FP, [], .nil hi, by simpa only [packV, RV] using hr⟩
  | .fp .., G, FP, H, y, hi, hr => ⟨G, FP, [], .nil hi, by simpa only [packV, RV] using hr⟩
  | .ow .., G, FP, H, y, hi, hr => ⟨G, FP, [], .nil hi, by simpa only [packV, RV] using hr⟩
  | .bx .., G, FP, H, y, hi, hr => ⟨G, FP, [], .nil hi, by simpa only [packV, RV] using hr⟩
  | .ob _, G, FP, H, y, hi, hr => by simp only [RV] at hr
  | .om .., G, FP, H, y, hi, hr => ⟨G, FP, [], .nil hi, by simpa only [packV, RV] using hr⟩
  | .mp id, G, FP, H, y, hi, hr => by
    unfold packV
    split
    · rename_i hlt
      exact ⟨G, FP, [], .nil hi, nm_spec _ L G y [] (by simpa [nm] using hlt) hr⟩
    · split
      · rename_i ob ho
        split
        · rename_i x hs hrow
          split
          · rename_i h3
            exact ⟨_, _, _, .kill hi id, obj_om hi ho hrow h3 hr _⟩
          · exact ⟨G, FP, [], .nil hi, by simp [RV]⟩
        · exact ⟨G, FP, [], .nil hi, by simp [RV]⟩
      · exact ⟨G, FP, [], .nil hi, by simp [RV]⟩
  | .yl id, G, FP, H, y, hi, hr => by
    unfold packV
    split
    · rename_i hlt
      exact ⟨G, FP, [], .nil hi, nm_spec _ L G y [] (by simpa [nm] using hlt) hr⟩
    · exact ⟨G, FP, [], .nil hi, by simp [RV]⟩
  | .hd id off len, G, FP, H, y, hi, hr => by
    unfold packV
    split
    · rename_i hlt
      exact ⟨G, FP, [], .nil hi, nm_spec _ L G y [] (by simpa [nm] using hlt) hr⟩
    · split
      · rename_i ob ho
        split
        · rename_i hc
          obtain ⟨rfl, h2, h3⟩ := hc
          exact ⟨_, _, _, .kill hi id, obj_ow hi ho h2 h3 hr _⟩
        · exact ⟨G, FP, [], .nil hi, by simp [RV]⟩
      · exact ⟨G, FP, [], .nil hi, by simp [RV]⟩
  | .pt id n r o, G, FP, H, y, hi, hr => by
    unfold packV
    split
    · rename_i hlt
      exact ⟨G, FP, [], .nil hi, nm_spec _ L G y [] (by simpa [nm] using hlt) hr⟩
    · split
      · rename_i ob ho
        split
        · rename_i row hrow
          split
          · rename_i hc
            obtain ⟨rfl, rfl, rfl, h3⟩ := hc
            exact ⟨_, _, _, .kill hi id, obj_bx hi ho hrow h3 hr _⟩
          · exact ⟨G, FP, [], .nil hi, by simp [RV]⟩
        · exact ⟨G, FP, [], .nil hi, by simp [RV]⟩
      · exact ⟨G, FP, [], .nil hi, by simp [RV]⟩
  | .ag cs, G, FP, H, y, hi, hr => by
    simp only [RV] at hr
    obtain ⟨ys, rfl, h⟩ := hr
    obtain ⟨G', FP', fr, h1, h2⟩ := packL_spec cs G FP H _ hi h
    exact ⟨G', FP', fr, h1, by simp only [packV, RV]; exact ⟨ys, rfl, h2⟩⟩
  | .tu cs, G, FP, H, y, hi, hr => by
    simp only [RV] at hr
    obtain ⟨ys, rfl, h⟩ := hr
    obtain ⟨G', FP', fr, h1, h2⟩ := packL_spec cs G FP H _ hi h
    exact ⟨G', FP', fr, h1, by simp only [packV, RV]; exact ⟨ys, rfl, h2⟩⟩
  | .fn f cs, G, FP, H, y, hi, hr => by
    simp only [RV] at hr
    obtain ⟨ys, rfl, h⟩ := hr
    obtain ⟨G', FP', fr, h1, h2⟩ := packL_spec cs G FP H _ hi h
    exact ⟨G', FP', fr, h1, by simp only [packV, RV]; exact ⟨ys, rfl, h2⟩⟩
  | .ic t x, G, FP, H, y, hi, hr => by
    unfold packV
    split
    · rename_i hn
      exact ⟨G, FP, [], .nil hi, nm_spec _ L G y [] (by simpa [nm] using hn) hr⟩
    · exact ⟨G, FP, [], .nil hi, by simp [RV]⟩
theorem packL_spec {L : Nat} : ∀ (l : List HV) (G : List (Option OG)) (FP : Nat → List Nat) (H : Heap) (ys : List Value), HInv Z G FP H w → RL Z G w l ys [] →
    ∃ G' FP' fr, Packed Z G FP w fr G' FP' (packL L l H).2 ∧ RL Z (G'.take L) w (packL L l H).1 ys fr
  | [], G, FP, H, ys, hi, hr => ⟨G, FP, [], .nil hi, by simpa only [packL, RL] using hr⟩
  | h :: t, G, FP, H, ys, hi, hr => by
    simp only [RL] at hr
    obtain ⟨y, ys', f1, f2, rfl, hf, h1, h2⟩ := hr
    obtain ⟨rfl, rfl⟩ := List.append_eq_nil_iff.1 hf.symm
    obtain ⟨G1, FP1, fr1, p1, r1⟩ := packV_spec (L := L) h G FP H y hi h1
    obtain ⟨G2, FP2, fr2, p2, r2⟩ := packL_spec (L := L) t G1 FP1 _ ys' p1.inv (RL.keep (fun _ _ => rfl) (fun _ h => h) p1.le _ _ _ (fun _ _ => rfl) h2)
    refine ⟨G2, FP2, fr1 ++ fr2, ⟨p2.inv, p1.le.trans p2.le, List.nodup_append.2 ⟨p1.nodup, p2.nodup, fun a ha b hb e => ?_⟩, fun b hb => ?_, fun id b hb => p1.fp id b (p2.fp id b hb)⟩, ?_⟩
    · subst e
      obtain ⟨⟨id, h3⟩, _⟩ := p2.fr a hb
      exact (p1.fr a ha).2 id h3
    · rcases List.mem_append.1 hb with hb | hb
      · exact ⟨(p1.fr b hb).1, fun id hc => (p1.fr b hb).2 id (p2.fp id b hc)⟩
      · obtain ⟨⟨id, h3⟩, h4⟩ := p2.fr b hb
        exact ⟨⟨id, p1.fp id b h3⟩, h4⟩
    · simp only [packL, RL]
      exact ⟨y, ys', fr1, fr2, rfl, rfl, RV.keep (fun _ _ => rfl) (fun _ h => h) (p2.le.take L) _ _ _ (fun _ _ => rfl) r1, r2⟩
end
end

/-- A function's results, of its temporaries. -/
def retV (res : List Nat) (T : Nat → HV) : HV :=
  match res with
  | [i] => T i
  | l => .tu (l.map T)

def resAre : List ResultVar → List Nat → Bool
  | [], [] => true
  | .tmp i :: r, j :: s => i == j && resAre r s
  | _, _ => false

/-- What is asked of a function's head: so many temporaries, these results, at least so many for its arguments. -/
def fnOk (fn : Func) (N : Nat) (res : List Nat) (k : Nat) : Bool := !(fn.name == "runtime.NumGoroutine") && fn.ntmps == N && resAre fn.results.toList res && res.all (fun i => decide (i < N)) && Nat.ble k N

/-- The temporaries at the beginning. -/
def T0 (args : List HV) : Nat → HV := fun i => args.getD i .any

def endP (L : Nat) (Q : HV → Heap → Prop) (x : HV × Heap) : Prop := nmH L x.2 = true ∧ Q x.1 (x.2.take L)

/-- What must hold at the end of a function's body. -/
def endQ (res : List Nat) (L : Nat) (Q : HV → Heap → Prop) (e : Exit) (T : Nat → HV) (H : Heap) : Prop :=
  match e with
  | .normal => endP L Q (packV L (retV res T) H)
  | .ret => endP L Q (packV L (retV res T) H)
  | _ => False

section
variable {P : Program} {Z : Nat → Prop} {w : World}

theorem resAre_spec : ∀ (r : List ResultVar) (s : List Nat), resAre r s = true → r = s.map .tmp
  | [], [], _ => rfl
  | .tmp i :: r, j :: s, h => by
    simp only [resAre, Bool.and_eq_true, beq_iff_eq] at h
    rw [h.1, resAre_spec r s h.2]; rfl
  | [], _ :: _, h => by simp [resAre] at h
  | .cell _ _ :: _, [], h => by simp [resAre] at h
  | .cell _ _ :: _, _ :: _, h => by simp [resAre] at h
  | .tmp _ :: _, [], h => by simp [resAre] at h

theorem run_retV {fn : Func} {res : List Nat} {N : Nat} {G : List (Option OG)} {T : Nat → HV} {tmps : Array Value} (hres : fn.results.toList = res.map .tmp) (hok : ∀ i ∈ res, i < N) (hs : ∀ i, i < N → RV Z G w (T i) (tmps.getD i undef) []) : ∃ v, (results fn tmps).run P w = .ok v w ∧ RV Z G w (retV res T) v [] := by
  have key : ∀ l : List Nat, (∀ i ∈ l, i < N) → ((l.map ResultVar.tmp).mapM (m := Sem) fun r => match r with
      | .tmp t => pure (tmps.getD t undef)
      | .cell a t => do loadVar t (← asAddr (tmps.getD a undef))).run P w = .ok (l.map fun i => tmps.getD i undef) w ∧ RL Z G w (l.map T) (l.map fun i => tmps.getD i undef) [] := by
    intro l
    induction l with
    | nil => intro _; exact ⟨by simp, by simp [RL]⟩
    | cons i l ih =>
      intro h
      obtain ⟨h1, h2⟩ := ih (fun x hx => h x (by simp [hx]))
      refine ⟨?_, ?_⟩
      · rw [List.map_cons, List.mapM_cons]
        simp only [Sem.run_bind, Sem.run_pure, Result.andThen_ok, h1, List.map_cons]
      · simp only [List.map_cons, RL]
        exact ⟨_, _, [], [], rfl, rfl, hs i (h i (by simp)), h2⟩
  obtain ⟨h1, h2⟩ := key res hok
  have hrun : (fn.results.mapM (m := Sem) fun r => match r with
      | .tmp t => pure (tmps.getD t undef)
      | .cell a t => do loadVar t (← asAddr (tmps.getD a undef))).run P w = .ok (res.map fun i => tmps.getD i undef).toArray w := by
    rw [Array.mapM_eq_mapM_toList, hres]
    simp only [map_eq_pure_bind, Sem.run_bind, h1, Result.andThen_ok, Sem.run_pure]
  unfold results
  simp only [Sem.run_bind]
  erw [hrun]
  simp only [Result.andThen_ok, Sem.run_pure]
  refine ⟨_, rfl, ?_⟩
  unfold retV
  split
  · rename_i i
    have := hs i (hok i (by simp))
    simpa using this
  · rename_i hne
    split
    · rename_i h1'
      exfalso
      have hl1 : res.length = 1 := by simpa using h1'
      match res, hl1, hne with
      | [i], _, hne => exact hne i rfl
    · simp only [RV]
      exact ⟨_, rfl, h2⟩

theorem T0_spec {G : List (Option OG)} {args : List HV} {vals : List Value} (n : Nat) (h : RL Z G w args vals []) : ∀ i, i < n → RV Z G w (T0 args i) ((vals.toArray ++ Array.replicate (n - vals.toArray.size) undef).getD i undef) [] := by
  intro i hi
  have hl := RL_length _ _ _ h
  unfold T0
  by_cases hlt : i < args.length
  · obtain ⟨y, f, hy, hr, hsub⟩ := RL_get _ _ _ h i args[i] (by simp [hlt])
    have : f = [] := List.eq_nil_of_sublist_nil hsub
    subst this
    have e1 : args.getD i .any = args[i] := by simp [hlt]
    have e2 : (vals.toArray ++ Array.replicate (n - vals.toArray.size) undef).getD i undef = y := by
      rw [Array.getD_eq_getD_getElem?, Array.getElem?_append_left (by simp; omega)]
      simp [hy]
    rw [e1, e2]; exact hr
  · have e1 : args.getD i .any = .any := by simp [List.getD_eq_getElem?_getD, List.getElem?_eq_none (Nat.le_of_not_lt hlt)]
    rw [e1]
    simp [RV]

/-- The marks are taken over, one by one. -/
theorem leaves_marks {ro : Option Nat} {n : Nat} {fn : Func} {tmps : Array Value} {R : Ending → World → Prop} : ∀ (ds : List Nat) (w : World), ds.Nodup → (∀ d ∈ ds, w.heap[d]? = some (.deferred (some []))) →
    (∀ w', w'.os = w.os → w'.tape = w.tape → w'.output = w.output → w'.heap.size = w.heap.size → (∀ b, b ∉ ds → w'.heap[b]? = w.heap[b]?) → ∃ v, (results fn tmps).run P w' = .ok v w' ∧ R (.returned v) w') →
    LeavesInM (Wd ro) n P fn tmps R (marks ds) .returning w
  | [], w, _, _, h => by
    simp only [marks, List.map_nil, LeavesInM, LeavesIn]
    exact h w rfl rfl rfl rfl (fun _ _ => rfl)
  | d :: ds, w, hnd, hd, h => by
    have hdd := hd d (by simp)
    obtain ⟨hn1, hn2⟩ := List.nodup_cons.1 hnd
    have hlt : d < w.heap.size := (Array.getElem?_eq_some_iff.1 hdd).1
    simp only [marks, List.map_cons, LeavesInM]
    refine ⟨by simp, .inl ⟨d, { w with heap := w.heap.setIfInBounds d (.deferred none) }, rfl, ?_, ?_⟩⟩
    · have := run_takeDeferred (P := P) hdd
      rw [this]
      rfl
    · refine leaves_marks ds _ hn2 (fun e he => ?_) ?_
      · have : d ≠ e := fun e' => hn1 (e' ▸ he)
        simp [Array.getElem?_setIfInBounds_ne this, hd e (by simp [he])]
      · intro w' ho ht hout hsz hk
        refine h w' ho ht hout (by rw [hsz]; simp) (fun b hb => ?_)
        rw [hk b (fun hc => hb (by simp [hc]))]
        have : d ≠ b := fun e => hb (by simp [e])
        simp [Array.getElem?_setIfInBounds_ne this]

/-- A function's contract, from its body. -/
theorem HCalls_body {f : FuncId} {fn : Func} {c : Code} {H : Heap} {args : List HV} {Q : HV → Heap → Prop} (N : Nat) (res : List Nat) (hf : P.funcs[f]? = some fn) (hb : fn.body = some c) (hok : fnOk fn N res args.length = true)
    (h : HW P N H.length c (endQ res H.length Q) (T0 args) H) : HCalls P f H args Q := by
  simp only [fnOk, Bool.and_eq_true, beq_iff_eq, Bool.not_eq_true'] at hok
  obtain ⟨⟨⟨⟨hname, hNN⟩, hres⟩, hrlt⟩, hN0⟩ := hok
  subst hNN
  have hN : args.length ≤ fn.ntmps := Nat.le_of_ble_eq_true hN0
  have hres := resAre_spec _ _ hres
  have hrlt : ∀ i ∈ res, i < fn.ntmps := fun i hi => by simpa using List.all_eq_true.1 hrlt i hi
  have hne : ¬ fn.name = "runtime.NumGoroutine" := by simpa using hname
  refine ⟨fun vals w => by simp [callFunc, hf, hne, hb], fun Z G FP w vals hi ha => ?_⟩
  refine callsIn_wide.1 (callsIn_of_wp_marks (F := Fence.wide) (n := 0) hf hb trivial ?_)
  have hlen := RL_length _ _ _ ha
  have hsz : (vals.toArray ++ Array.replicate (fn.ntmps - vals.toArray.size) undef).size = fn.ntmps := by simp; omega
  have hst : St fn.ntmps w.heap.size Z G FP [] (T0 args) H { tmps := vals.toArray ++ Array.replicate (fn.ntmps - vals.toArray.size) undef, defers := [] } w :=
    ⟨hi, hsz, T0_spec fn.ntmps ha, rfl, by simp, by simp⟩
  have hlenG : H.length = G.length := hi.len.symm
  refine wpIn_mono (h none 0 w.heap.size Z G FP [] _ w ⟨Nat.le_refl _, by simp⟩ (by omega) hst) ?_
  rintro e a' w' ⟨T', H', Z', G', FP', ds', hend, hs', hG', hE'⟩
  have he : e = .normal ∨ e = .ret := by cases e <;> simp [endQ] at hend <;> simp
  have hend' : endP H.length Q (packV H.length (retV res T') H') := by rcases he with rfl | rfl <;> exact hend
  obtain ⟨hnm, hQ⟩ := hend'
  have goal : LeavesInM Fence.wide 0 P fn a'.tmps (Post Z G FP H w Q) a'.defers .returning w' := by
    rw [hs'.defers]
    refine leaves_marks (ro := none) ds' w' hs'.dsn (fun d hd => (hs'.dsat d hd).2.1) ?_
    intro w2 ho ht hout hsz2 hk
    -- the world after the marks
    have hkeep : ∀ b, (Z' b ∨ ∃ id, b ∈ FP' id) → w2.heap[b]? = w'.heap[b]? := by
      intro b hb
      refine hk b fun hc => ?_
      obtain ⟨_, _, h3, h4⟩ := hs'.dsat b hc
      rcases hb with hb | ⟨id, hb⟩
      · exact h3 hb
      · exact h4 id hb
    have hi2 : HInv Z' G' FP' H' w2 := hs'.inv.keep (by omega) hkeep
    obtain ⟨v, hrun, hv⟩ := run_retV (P := P) (w := w2) hres hrlt (fun i hi' => RV.nil_keep (fun b hb => hkeep b (.inl hb)) (fun _ h => h) (GLe.refl _) (hs'.tmps i hi'))
    refine ⟨v, hrun, ?_⟩
    obtain ⟨G3, FP3, fr, hp, hrv⟩ := packV_spec (L := H.length) (retV res T') G' FP' H' v hi2 hv
    have hL3 : H.length ≤ G3.length := by have := hp.le.len; have := hG'.len; omega
    have i4 := hp.inv.trunc H.length hnm
    have hE2 : Evo Z FP w Z' FP' w2 := by
      refine ⟨ho.trans hE'.os, ht.trans hE'.tape, hout.trans hE'.output, by rw [hsz2]; exact hE'.size, fun b hb hf => ?_, hE'.zle, hE'.znew, hE'.fnew⟩
      rw [hk b (fun hc => by have := (hs'.dsat b hc).1; omega)]
      exact hE'.keep b hb hf
    refine ⟨v, _, _, Z', G3.take H.length, _, fr, rfl, hQ, ?_, i4, hrv, hp.nodup, fun b hb => ?_, fun b hb => ?_, ?_, ?_⟩
    · rw [List.length_take, ← hp.inv.len]; omega
    · obtain ⟨⟨id, h1⟩, h2⟩ := hp.fr b hb
      refine ⟨hi2.zfp id b h1, hi2.flt id b h1, fun j hj => ?_⟩
      split at hj
      · exact h2 j hj
      · simp at hj
    · obtain ⟨⟨id, h1⟩, h2⟩ := hp.fr b hb
      exact hE2.fnew id b h1
    · refine ⟨by simp; omega, fun id hid => ?_⟩
      have hid' : id < H.length := by omega
      rw [take_get hid']
      have hG3 : GLt H.length G' G3 := GLt.of hG'.len hp.le
      exact (hG'.trans hG3).at_ id hid'
    · refine ⟨hE2.os, hE2.tape, hE2.output, hE2.size, hE2.keep, hE2.zle, hE2.znew, fun id b hb => ?_⟩
      split at hb
      · exact hE2.fnew id b (hp.fp id b hb)
      · simp at hb
  rcases he with rfl | rfl
  · exact goal
  · exact goal
end
end Go.Proofs.YtcpefnjofekibaaDoor
