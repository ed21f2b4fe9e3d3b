/- Parts of the proof: HiDi, Ea, Eb, Ec, HiDk, Ed, Ee, Ef, Eg, Eh. -/
import Derived.Test.YtokigghopmopbaaGreatDoorZt08
set_option linter.unusedSectionVars false
set_option linter.unusedVariables false
set_option linter.unusedSimpArgs false
namespace Go.Proofs.YtokigghopmopbaaGreatDoor
open Go.RowKit
inductive Plan where
  | leaf
  | stop
  | light (i : Nat) (p : Plan)
  | heavy (j : Nat) (keep : List Nat) (p q : Plan)
def noCall : Op → Bool
  | .call { callee := .value _, args := _, argTypes := _ } => false
  | .call { callee := .invoke _ _, args := _, argTypes := _ } => false
  | _ => true
def callFree (all : List Oper) (i : Nat) : Bool := match all[i]? with | some o => noCall o.op | none => false
def dm (Ls Ss : List Nat) (k : Nat) : Bool := Ls.contains k || Ss.contains k
def Plan.chk (all : List Oper) (bs : List Nat) : Plan → List Nat → List Nat → List Nat → Bool
  | .leaf, Ls, Ss, alts => alts.isEmpty && (List.range all.length).all fun i => dm Ls Ss i
  | .stop, Ls, Ss, alts => !alts.isEmpty && (List.range all.length).all fun i => dm Ls Ss i || alts.contains i || (List.range all.length).any fun k => !dm Ls Ss k && mustB bs k i
  | .light i p, Ls, Ss, alts => alts.isEmpty && decide (i < all.length) && !dm Ls Ss i && callFree all i && ((List.range all.length).all fun k => !mustB bs k i || dm Ls Ss k) && p.chk all bs (i :: Ls) Ss []
  | .heavy j keep p q, Ls, Ss, alts => decide (j < all.length) && !dm Ls Ss j && ((List.range all.length).all fun k => !mustB bs k j || dm Ls Ss k) && (Ls.all fun i => mustB bs i j || keep.contains i) && p.chk all bs Ls (j :: Ss) [] && q.chk all bs Ls Ss (j :: alts)
def idsV : HV → List Nat
  | .hd i _ _ => [i]
  | .pt i _ _ _ => [i]
  | _ => []
def idsO (T : Nat → HV) (op : Op) : List Nat :=
  if indep op = true then [] else match op with
  | .buildSlice .. => []
  | op => op.operands.toList.flatMap fun y => idsV (hev T y)
def sameAt (H H' : Heap) : List Nat → Prop
  | [] => True
  | i :: l => getO H' i = getO H i ∧ sameAt H H' l
def agree1 (H H' : Heap) (ids : List Nat) : Bool → Prop
  | true => sameAt H H' ids
  | false => True
def agreeK (keep : List Nat) (H H' : Heap) : List (Nat × List Nat) → Prop
  | [] => True
  | e :: rd => agree1 H H' e.2 (keep.contains e.1) ∧ agreeK keep H H' rd
def nthO : List Oper → Nat → Option Oper
  | [], _ => none
  | o :: _, 0 => some o
  | _ :: l, i + 1 => nthO l i
theorem nthO_eq : ∀ (l : List Oper) (i : Nat), nthO l i = l[i]?
  | [], _ => by simp [nthO]
  | o :: l, 0 => rfl
  | o :: l, i + 1 => by simp only [nthO, List.getElem?_cons_succ]; exact nthO_eq l i
def atO (r : Option Oper) (f : Oper → Prop) : Prop := match r with | some o => f o | none => False
def withI (ids : List Nat) (f : List Nat → Prop) : Prop := f ids
def withH (H : Heap) (f : Heap → Prop) : Prop := f H
def exT (P : Program) (all : List Oper) (K : KS) : Plan → List (Nat × List Nat) → KS
  | .leaf, _ => K
  | .stop, _ => fun _ _ => True
  | .light i p, rd => fun T H => atO (nthO all i) fun o => withI (idsO T o.op) fun ids => exGq (fun _ T' _ => exT P all K p ((i, ids) :: rd) T' H) P all o [] [] T H
  | .heavy j keep p q, rd => fun T H => (atO (nthO all j) fun o => exG (fun _ T' H' => withH H' fun H' => agreeK keep H H' rd ∧ exT P all K p rd T' H') P all o [] [] T H) ∧ exT P all K q rd T H
section
variable {P : Program} {all : List Oper}
theorem must_lt {N m : Nat} (hA : AnyOk N m all) : ∀ (j i : Nat), j < all.length → mustB (befs all []) i j = true → i < j := by
  intro j
  induction j using Nat.strongRecOn with
  | _ j ih =>
    intro i hj hm
    unfold mustB at hm
    obtain ⟨e, he, h1, h2⟩ := befs_spec all [] j _ (List.getElem?_eq_getElem hj) (by simpa using hm)
    have hlt := hA.back j _ (List.getElem?_eq_getElem hj) e he h1
    rcases h2 with rfl | h2
    · exact hlt
    · have := ih e.on hlt i (by omega) h2
      omega
theorem runM_xs {S : Nat → Bool} : ∀ (l : List Oper) (xs xs' : List HV) (i : Nat) (T : Nat → HV), xs.length = xs'.length → (∀ j, S (i + j) = true → xs[j]? = xs'[j]?) → runM S i l xs T = runM S i l xs' T
  | [], xs, xs', i, T, _, _ => by cases xs <;> cases xs' <;> rfl
  | o :: l, [], xs', i, T, hl, _ => by
    obtain rfl : xs' = [] := by cases xs' with | nil => rfl | cons => simp at hl
    rfl
  | o :: l, x :: xs, [], i, T, hl, _ => by simp at hl
  | o :: l, x :: xs, x' :: xs', i, T, hl, h => by
    simp only [runM]
    have e : (if S i = true then updO T o.dst x else T) = if S i = true then updO T o.dst x' else T := by
      split
      · rename_i hs
        have := h 0 (by rw [Nat.add_zero]; exact hs)
        simp only [List.getElem?_cons_zero, Option.some.injEq] at this
        rw [this]
      · rfl
    rw [e]
    exact runM_xs l xs xs' (i + 1) _ (by simpa using hl) fun j hj => by
      have := h (j + 1) (by rw [show i + (j + 1) = i + 1 + j by omega]; exact hj)
      simpa using this
def vals (n : Nat) (f : Nat → HV) : List HV := (List.range n).map f
theorem vals_get {n j : Nat} {f : Nat → HV} (h : j < n) : (vals n f)[j]? = some (f j) := by simp [vals, h]
theorem vals_len {n : Nat} {f : Nat → HV} : (vals n f).length = n := by simp [vals]
def tvS (all : List Oper) (S : Nat → Bool) (f : Nat → HV) (T0 : Nat → HV) : Nat → HV := runM S 0 all (vals all.length f) T0
variable {S S' : Nat → Bool} {f f' : Nat → HV} {T0 : Nat → HV}
theorem tvS_f (h : ∀ j, j < all.length → S j = true → f j = f' j) : tvS all S f T0 = tvS all S f' T0 := by
  unfold tvS
  refine runM_xs all _ _ 0 T0 (by rw [vals_len, vals_len]) fun j hj => ?_
  rw [Nat.zero_add] at hj
  by_cases hl : j < all.length
  · rw [vals_get hl, vals_get hl, h j hl hj]
  · rw [List.getElem?_eq_none (by rw [vals_len]; omega), List.getElem?_eq_none (by rw [vals_len]; omega)]
theorem tvS_at {t : Nat} (h : ∀ (j : Nat) o, all[j]? = some o → o.dst = some t → S j = S' j) : tvS all S f T0 t = tvS all S' f T0 t := by
  unfold tvS
  refine runM_at _ _ _ _ _ rfl fun j hj => ?_
  unfold dstAt at hj
  cases ho : all[j]? with
  | none => rw [ho] at hj; cases hj
  | some o =>
    rw [ho] at hj
    rw [Nat.zero_add]
    exact h j o ho hj
theorem tvS_add {j : Nat} {o : Oper} (ho : all[j]? = some o) (h1 : S' j = true) (h2 : S j = false) (h3 : ∀ k, k ≠ j → S' k = S k) (h4 : ∀ (k : Nat) ok, j < k → S k = true → all[k]? = some ok → ∀ t, o.dst = some t → ok.dst ≠ some t) : tvS all S' f T0 = updO (tvS all S f T0) o.dst (f j) := by
  have hl := (List.getElem?_eq_some_iff.1 ho).1
  unfold tvS
  refine runM_add all _ 0 j T0 o (f j) ho (vals_get hl) (by rw [Nat.zero_add]; exact h1) (by rw [Nat.zero_add]; exact h2) (fun k hk => h3 k (by omega)) fun k hk hS t ht hd => ?_
  unfold dstAt at hd
  cases hok : all[k]? with
  | none => rw [hok] at hd; cases hd
  | some ok =>
    rw [hok] at hd
    exact h4 k ok hk (by rw [Nat.zero_add] at hS; exact hS) hok t ht hd
theorem sameAt_spec {H H' : Heap} : ∀ {l : List Nat}, sameAt H H' l → ∀ i ∈ l, getO H' i = getO H i
  | [], _, i, h => by simp at h
  | j :: l, hs, i, h => by
    rcases List.mem_cons.1 h with rfl | h
    · exact hs.1
    · exact sameAt_spec hs.2 i h
theorem agreeK_spec {keep : List Nat} {H H' : Heap} : ∀ {rd : List (Nat × List Nat)}, agreeK keep H H' rd → ∀ e ∈ rd, keep.contains e.1 = true → ∀ i ∈ e.2, getO H' i = getO H i
  | [], _, e, h => by simp at h
  | a :: rd, hs, e, h => by
    rcases List.mem_cons.1 h with rfl | h
    · intro hk
      have h1 := hs.1
      rw [hk] at h1
      exact sameAt_spec h1
    · exact agreeK_spec hs.2 e h
theorem nmed_ids {x : HV} {i : Nat} (h : nmed i x) : i ∈ idsV x := by
  cases x <;> simp only [nmed] at h <;> simp [idsV, h]
theorem CertO_ids {T : Nat → HV} {H H' : Heap} {op : Op} {x : HV} (hn : noCall op = true) (hs : ∀ i ∈ idsO T op, getO H' i = getO H i) (hc : CertO P T H op x) : CertO P T H' op x := by
  rcases hc with ⟨p, H0, hp, hr⟩ | ⟨f, args, tys, fid, caps, n, R, args', rfl, _⟩ | ⟨rv, name, args, tys, t, y, fid, n, R, args', rfl, _⟩ | ⟨t, len, parts, p, H0, rfl, hp, hr⟩
  · have hR : RRel (ropQ P T H op) (ropQ P T H' op) := by
      by_cases hi : indep op = true
      · exact ropQ_indep hi
      · refine ropQ_agr fun y hy id hid ob ho => ?_
        have : id ∈ idsO T op := by
          unfold idsO
          rw [if_neg hi]
          split
          · unfold ropQ at hr; cases hr
          · exact List.mem_flatMap.2 ⟨y, hy, nmed_ids hid⟩
        rw [hs id this]; exact ho
    obtain ⟨p', H0', hp', hr'⟩ := hR p x H0 hp hr
    exact .inl ⟨p', H0', hp', hr'⟩
  · simp [noCall] at hn
  · simp [noCall] at hn
  · exact .inr (.inr (.inr ⟨t, len, parts, p, H', rfl, hp, rbuildSliceF_congr (fun _ _ => rfl) hr⟩))
theorem CertG_ids {T : Nat → HV} {H H' : Heap} {o : Oper} {x : HV} (hn : noCall o.op = true) (hs : ∀ i ∈ idsO T o.op, getO H' i = getO H i) (hc : CertG P all T H o x) : CertG P all T H' o x := by
  unfold CertG at hc ⊢
  split at hc
  · exact CertO_ids hn hs hc
  · obtain ⟨t, ht, ⟨c, h1, h2, h3⟩ | hc⟩ := hc
    · exact ⟨t, ht, .inl ⟨c, h1, fun e => CertO_ids hn hs (h2 e), h3⟩⟩
    · exact ⟨t, ht, .inr hc⟩
theorem idsO_congr {T T' : Nat → HV} {op : Op} (h : ∀ y ∈ op.operands.toList, hev T y = hev T' y) : idsO T op = idsO T' op := by
  unfold idsO
  split
  · rfl
  · split
    · rfl
    · have : ∀ (l : List Operand), (∀ y ∈ l, hev T y = hev T' y) → l.flatMap (fun y => idsV (hev T y)) = l.flatMap fun y => idsV (hev T' y) := by
        intro l
        induction l with
        | nil => intro _; rfl
        | cons a l ih =>
          intro h
          simp only [List.flatMap_cons]
          rw [h a (by simp), ih fun y hy => h y (by simp [hy])]
      exact this _ h
def shiftK (T T' : Nat → HV) (d : Option Nat) (kk : KS) : KS := fun T1 H1 => ∃ x, T1 = updO T' d x ∧ kk (updO T d x) H1
theorem exO_shift {kk : KS} {d : Option Nat} {op : Op} {T T' : Nat → HV} {H : Heap} (h : ∀ y ∈ op.operands.toList, hev T y = hev T' y) (hx : exO (fun _ => kk) P all d op [] [] T H) : exO (fun _ => shiftK T T' d kk) P all d op [] [] T' H := by
  unfold exO at hx ⊢
  split at hx
  · rename_i f args tys
    have e1 := h f (by simp [Op.operands, Call.operands])
    have e2 : args.toList.map (hev T) = args.toList.map (hev T') := hevs_congr fun x hx => h x (by simp [Op.operands, Call.operands]; exact .inr (by simpa using hx))
    rw [← e1, ← e2]
    unfold exCall at hx ⊢
    split at hx
    · obtain ⟨Q, h1, h2⟩ := hx
      exact ⟨Q, h1, fun x H' hq hl => ⟨_, rfl, h2 x H' hq hl⟩⟩
    · obtain ⟨Kb, h1, h2⟩ := hx
      exact ⟨Kb, h1, fun b H' hq hl => ⟨_, rfl, h2 b H' hq hl⟩⟩
    · exact hx.elim
  · rename_i rv name args tys
    have e1 := h rv (by simp [Op.operands, Call.operands])
    have e2 : args.toList.map (hev T) = args.toList.map (hev T') := hevs_congr fun x hx => h x (by simp [Op.operands, Call.operands]; exact .inr (by simpa using hx))
    rw [← e1, ← e2]
    unfold exInv at hx ⊢
    split at hx
    · unfold exInv2 at hx ⊢
      split at hx
      · obtain ⟨Q, h1, h2⟩ := hx
        exact ⟨Q, h1, fun x H' hq hl => ⟨_, rfl, h2 x H' hq hl⟩⟩
      · exact hx.elim
    · exact hx.elim
  · unfold exR at hx ⊢
    rw [← rop_congr h]
    cases hr : rop P T H op with
    | none => rw [hr] at hx; exact hx.elim
    | some q =>
      obtain ⟨p, x, H'⟩ := q
      rw [hr] at hx
      exact ⟨hx.1, x, rfl, hx.2⟩
theorem exG_shift {kk : KS} {o : Oper} {T T' : Nat → HV} {H : Heap} (h : ∀ t ∈ seenT all o, T t = T' t) (hx : exG (fun _ => kk) P all o [] [] T H) : exG (fun _ => shiftK T T' o.dst kk) P all o [] [] T' H := by
  have hv := seen_hev h
  unfold exG at hx ⊢
  split at hx
  · exact exO_shift hv hx
  · rename_i j b hg
    unfold exB at hx ⊢
    split at hx
    · rename_i t ht
      have e : T t = T' t := h t (by unfold seenT; rw [hg]; simp [ht])
      rw [← e]
      unfold exB2 at hx ⊢
      split at hx
      · exact ⟨fun hc => exO_shift hv (hx.1 hc), fun hc => ⟨_, rfl, hx.2 hc⟩⟩
      · exact ⟨_, rfl, hx⟩
      · exact hx.elim
    · exact hx.elim
end
section
variable {P : Program} {N L B mm : Nat} {all : List Oper} {Z : Nat → Prop} {G : List (Option OG)} {FP : Nat → List Nat} {ds : List Nat} {T : Nat → HV} {H : Heap} {a : Act} {w : World} {ro : Option Nat}
theorem exO_HO {kk : KS} {o : Oper} (hok : operOk N o = true) (hn : noDefer o = true) (h : exO (fun _ => kk) P all o.dst o.op [] [] T H) : HO P N L o T H kk := by
  have hnd := noDefer_spec hn
  have hdst : ∀ i, o.dst = some i → i < N := fun i hi => by
    have := hok; simp only [operOk, dstOk, hi, Bool.and_eq_true, decide_eq_true_eq] at this; exact this.1
  unfold exO at h
  split at h
  · rename_i f args tys hop
    unfold exCall at h
    split at h
    · rename_i fid caps hf
      obtain ⟨Q', hc, hk⟩ := h
      exact HO_call (K := kk) hop hok hf hc hk
    · rename_i id hf
      obtain ⟨Kb, hc, hk⟩ := h
      exact HO_yield (K := kk) hop hok hf hc hk
    · exact h.elim
  · rename_i rv name args tys hop
    unfold exInv at h
    split at h
    · rename_i t x hf
      unfold exInv2 at h
      split at h
      · rename_i fid hm
        obtain ⟨Q', hc, hk⟩ := h
        exact HO_invoke (K := kk) hop hok hf hm hc hk
      · exact h.elim
    · exact h.elim
  · exact HO_of_HR (K := kk) hnd hdst (HR_rop hok h)
theorem exG_run {kk : KS} {j : Nat} {o : Oper} {K : Act → World → Prop} {Q' : Exit → Act → World → Prop} (hall : all.all (dstOk N) = true) (hj : all[j]? = some o) (hok : operOk N o = true) (hn : noDefer o = true) (h : exG (fun _ => kk) P all o [] [] T H)
    (hs : St N B Z G FP ds T H a w) (hB : Bo ro B FP w) (hL : L ≤ G.length)
    (hK : ∀ T' H' Z' G' FP' a' w', kk T' H' → St N B Z' G' FP' ds T' H' a' w' → GLt L G G' → Evo Z FP w Z' FP' w' → K a' w') : wpOpIn (Wd ro) mm P all.toArray Q' j K a w := by
  have hdst : ∀ i, o.dst = some i → i < N := fun i hi => by
    have := hok; simp only [operOk, dstOk, hi, Bool.and_eq_true, decide_eq_true_eq] at this; exact this.1
  have run : exO (fun _ => kk) P all o.dst o.op [] [] T H → o.wpIn (Wd ro) mm P a w K Q' := fun hM => by
    refine exO_HO (L := L) hok hn hM ro mm B Z G FP ds a w hB hL hs K Q' ?_
    rintro a' w' ⟨T2, H2, Z', G', FP', hk, hs', hG', hE'⟩
    exact hK T2 H2 Z' G' FP' a' w' hk hs' hG' hE'
  have noRun : kk (updO T o.dst (.v undef)) H → K (a.put o.dst undef) w := fun hk =>
    hK _ _ _ _ _ _ _ hk (hs.drop o.dst hdst) (GLt.refl hL) (Evo.refl _ _ _)
  unfold wpOpIn
  rw [List.getElem?_toArray, hj]
  dsimp only
  unfold exG at h
  split at h
  · rename_i hg
    simp only [Region.wanted, hg, if_true]
    exact run h
  · rename_i k b hg
    unfold exB at h
    split at h
    · rename_i t ht
      unfold exB2 at h
      split at h
      · rename_i c h1
        have hy : yielded all.toArray a.tmps k = some c := hs.yields hall (by rw [dstAt_gval ht]; exact h1)
        have hw : Region.wanted o (yielded all.toArray a.tmps) = (c == b) := by
          simp only [Region.wanted, hg, hy]
          cases c <;> cases b <;> rfl
        rw [hw]
        by_cases hcb : c = b
        · rw [if_pos (by simp [hcb])]
          exact run (h.1 hcb)
        · have hc : c = (!b) := by cases c <;> cases b <;> simp_all
          rw [if_neg (by simp [hcb])]
          exact ⟨fun _ _ => trivial, noRun (h.2 hc)⟩
      · rename_i ts h1
        have hy : yielded all.toArray a.tmps k = none := hs.yieldsNo hall (by rw [dstAt_gval ht]; exact h1)
        have hw : Region.wanted o (yielded all.toArray a.tmps) = false := by
          simp only [Region.wanted, hg, hy]
          cases b <;> rfl
        rw [hw, if_neg (by simp)]
        exact ⟨fun _ _ => trivial, noRun h⟩
      · exact h.elim
    · exact h.elim
end
section
variable {P : Program} {N L B mm : Nat} {all : List Oper} {K : KS} {T0 : Nat → HV}
theorem dm_cons {i k : Nat} {Ls Ss : List Nat} : dm (i :: Ls) Ss k = (k == i || dm Ls Ss k) := by
  simp only [dm, List.contains_cons, Bool.or_assoc]
theorem dm_cons' {i k : Nat} {Ls Ss : List Nat} : dm Ls (i :: Ss) k = (k == i || dm Ls Ss k) := by
  simp only [dm, List.contains_cons]
  cases (k == i) <;> cases Ls.contains k <;> simp
structure NodeI (P : Program) (N : Nat) (all : List Oper) (K : KS) (T0 : Nat → HV) (p : Plan) (Ls Ss : List Nat) (rd : List (Nat × List Nat)) (f : Nat → HV) (T : Nat → HV) (H : Heap) (lst : Nat → Bool) : Prop where
  chk : p.chk all (befs all []) Ls Ss [] = true
  run : exT P all K p rd T H
  teq : T = tvS all (dm Ls Ss) f T0
  closed : ∀ i k, dm Ls Ss i = true → mustB (befs all []) k i = true → dm Ls Ss k = true
  lt : ∀ i, dm Ls Ss i = true → i < all.length
  sub : ∀ i, lst i = true → dm Ls Ss i = true
  hs : ∀ i, Ss.contains i = true → lst i = true
  cert : ∀ i, Ls.contains i = true → lst i = false → ∃ ids, (i, ids) ∈ rd ∧ ∀ o, all[i]? = some o → noCall o.op = true ∧ ∀ H', (∀ id ∈ ids, getO H' id = getO H id) → CertG P all (tvS all (fun k => mustB (befs all []) k i) f T0) H' o (f i)
def Plan.isLight : Plan → Bool
  | .light _ _ => true
  | _ => false
theorem range_all {n : Nat} {q : Nat → Bool} (h : (List.range n).all q = true) {i : Nat} (hi : i < n) : q i = true := List.all_eq_true.1 h i (List.mem_range.2 hi)
theorem seen_same {m : Nat} (hA : AnyOk N m all) {S : Nat → Bool} {f : Nat → HV} {i : Nat} {o : Oper} (ho : all[i]? = some o) (h1 : ∀ k, mustB (befs all []) k i = true → S k = true) (h2 : S i = false) (h3 : ∀ k, S k = true → mustB (befs all []) i k = true → S i = true) (hS : ∀ k, S k = true → k < all.length) :
    ∀ t ∈ seenT all o, tvS all (fun k => mustB (befs all []) k i) f T0 t = tvS all S f T0 t := by
  intro t ht
  have hil := (List.getElem?_eq_some_iff.1 ho).1
  refine tvS_at fun j oj hoj hd => ?_
  have hjl := (List.getElem?_eq_some_iff.1 hoj).1
  rcases Nat.lt_trichotomy j i with h | h | h
  · have hm := hA.ord j i oj o h hoj ho (.inr (by simp [confB, hd, ht]))
    rw [hm, h1 j hm]
  · subst h
    rw [h2]
    cases hx : mustB (befs all []) j j with
    | false => rfl
    | true => have := must_lt hA j j hil hx; omega
  · have e1 : mustB (befs all []) j i = false := by
      cases hx : mustB (befs all []) j i with
      | false => rfl
      | true => have := must_lt hA i j hil hx; omega
    have e2 : S j = false := by
      cases hx : S j with
      | false => rfl
      | true =>
        have := h3 j hx (hA.ord i j o oj h ho hoj (.inr (by unfold confB; rw [hd]; simp [ht])))
        rw [h2] at this; cases this
    rw [e1, e2]
theorem add_dst {m : Nat} (hA : AnyOk N m all) {S : Nat → Bool} {i : Nat} {o : Oper} (ho : all[i]? = some o) (h2 : S i = false) (h3 : ∀ k, S k = true → mustB (befs all []) i k = true → S i = true) :
    ∀ (k : Nat) ok, i < k → S k = true → all[k]? = some ok → ∀ t, o.dst = some t → ok.dst ≠ some t := by
  intro k ok hik hS hok t ht hd
  have := h3 k hS (hA.ord i k o ok hik ho hok (.inr (by unfold confB; rw [ht]; simp [hd])))
  rw [h2] at this; cases this
theorem settle {m : Nat} (hA : AnyOk N m all) {H : Heap} {lst : Nat → Bool} {Ss : List Nat} : ∀ (p : Plan) (Ls : List Nat) (rd : List (Nat × List Nat)) (f : Nat → HV) (T : Nat → HV), NodeI P N all K T0 p Ls Ss rd f T H lst →
    ∃ p' Ls' rd' f' T', NodeI P N all K T0 p' Ls' Ss rd' f' T' H lst ∧ p'.isLight = false ∧ ∀ k, dm Ls Ss k = true → f' k = f k
  | .leaf, Ls, rd, f, T, h => ⟨_, _, _, _, _, h, rfl, fun _ _ => rfl⟩
  | .stop, Ls, rd, f, T, h => ⟨_, _, _, _, _, h, rfl, fun _ _ => rfl⟩
  | .heavy .., Ls, rd, f, T, h => ⟨_, _, _, _, _, h, rfl, fun _ _ => rfl⟩
  | .light i p, Ls, rd, f, T, h => by
    have hc := h.chk
    simp only [Plan.chk, Bool.and_eq_true, decide_eq_true_eq, Bool.not_eq_true'] at hc
    obtain ⟨⟨⟨⟨⟨_, hil⟩, hnd⟩, hcf⟩, hpre⟩, hp⟩ := hc
    have ho : all[i]? = some all[i] := List.getElem?_eq_getElem hil
    generalize all[i] = o at ho
    have hno : noCall o.op = true := by unfold callFree at hcf; rw [ho] at hcf; exact hcf
    have hpre' : ∀ k, mustB (befs all []) k i = true → dm Ls Ss k = true := fun k hk => by
      have hkl := must_lt hA i k hil hk
      have := range_all hpre (i := k) (by omega)
      simpa [hk] using this
    have hr := h.run
    simp only [exT, nthO_eq, ho, atO, withI] at hr
    obtain ⟨x, hcert, hk⟩ := exGq_cert (k := fun _ T' _ => exT P all K p ((i, idsO T o.op) :: rd) T' H) hr
    have hcl : ∀ k, dm Ls Ss k = true → mustB (befs all []) i k = true → dm Ls Ss i = true := fun k h1 h2 => h.closed k i h1 h2
    let f1 : Nat → HV := fun k => if k = i then x else f k
    have f1i : f1 i = x := if_pos rfl
    have f1n : ∀ k, dm Ls Ss k = true → f k = f1 k := fun k hk => by
      have : k ≠ i := fun e => by rw [e, hnd] at hk; cases hk
      exact (if_neg this).symm
    have hT1 : T = tvS all (dm Ls Ss) f1 T0 := h.teq.trans (tvS_f fun j _ hj => f1n j hj)
    have hsee := seen_same (T0 := T0) (f := f1) hA ho hpre' hnd hcl h.lt
    have new : NodeI P N all K T0 p (i :: Ls) Ss ((i, idsO T o.op) :: rd) f1 (updO T o.dst x) H lst := by
      refine ⟨hp, hk, ?_, fun a k ha hm => ?_, fun a ha => ?_, fun a ha => ?_, h.hs, fun a ha hl => ?_⟩
      · rw [hT1, ← f1i]
        exact (tvS_add ho (by rw [dm_cons]; simp) hnd (fun k hk => by rw [dm_cons]; simp [hk]) (add_dst hA ho hnd hcl)).symm
      · rw [dm_cons] at ha ⊢
        simp only [Bool.or_eq_true, beq_iff_eq] at ha ⊢
        rcases ha with rfl | ha
        · exact .inr (hpre' k hm)
        · exact .inr (h.closed a k ha hm)
      · rw [dm_cons] at ha
        simp only [Bool.or_eq_true, beq_iff_eq] at ha
        rcases ha with rfl | ha
        · exact hil
        · exact h.lt a ha
      · rw [dm_cons, h.sub a ha]; simp
      · by_cases e : a = i
        · subst e
          refine ⟨_, List.mem_cons_self, fun o' ho' => ?_⟩
          rw [ho] at ho'; cases ho'
          refine ⟨hno, fun H' hH' => ?_⟩
          rw [f1i]
          refine CertG_ids (H := H) hno (fun id hid => hH' id ?_) ?_
          · rw [idsO_congr (T' := T) (seen_hev fun t ht => by rw [hT1]; exact hsee t ht)] at hid
            exact hid
          · refine CertG_congr (T := T) (fun t ht => ?_) hcert
            rw [hT1]; exact (hsee t ht).symm
        · have ha' : Ls.contains a = true := by
            simp only [List.contains_cons, Bool.or_eq_true, beq_iff_eq] at ha
            exact ha.resolve_left e
          obtain ⟨ids, h1, h2⟩ := h.cert a ha' hl
          refine ⟨ids, List.mem_cons_of_mem _ h1, fun o' ho' => ⟨(h2 o' ho').1, fun H' hH' => ?_⟩⟩
          have hda : dm Ls Ss a = true := by unfold dm; rw [ha']; rfl
          have := (h2 o' ho').2 H' hH'
          rw [f1n a hda] at this
          rw [tvS_f (f' := f1) fun j _ hj => f1n j (h.closed a j hda hj)] at this
          exact this
    obtain ⟨p', Ls', rd', f', T', h1, h2, h3⟩ := settle hA p (i :: Ls) _ f1 _ new
    exact ⟨p', Ls', rd', f', T', h1, h2, fun k hk => (h3 k (by rw [dm_cons, hk]; simp)).trans (f1n k hk).symm⟩
theorem alts_spec {H : Heap} {Ls Ss : List Nat} {rd : List (Nat × List Nat)} {T : Nat → HV} {j : Nat} (hj : j < all.length) (hd : dm Ls Ss j = false) (hpre : ∀ k, mustB (befs all []) k j = true → dm Ls Ss k = true) :
    ∀ (p : Plan) (alts : List Nat), p.chk all (befs all []) Ls Ss alts = true → (p.isLight = false ∨ alts ≠ []) → exT P all K p rd T H →
    alts.contains j = true ∨ ∃ keep p', p'.chk all (befs all []) Ls (j :: Ss) [] = true ∧ (Ls.all fun i => mustB (befs all []) i j || keep.contains i) = true ∧ ∃ o, all[j]? = some o ∧ exG (fun _ T' H' => agreeK keep H H' rd ∧ exT P all K p' rd T' H') P all o [] [] T H
  | .leaf, alts, hc, _, _ => by
    simp only [Plan.chk, Bool.and_eq_true] at hc
    have := range_all hc.2 hj
    rw [hd] at this; cases this
  | .stop, alts, hc, _, _ => by
    simp only [Plan.chk, Bool.and_eq_true] at hc
    have := range_all hc.2 hj
    rw [hd] at this
    simp only [Bool.false_or, Bool.or_eq_true] at this
    rcases this with h | h
    · exact .inl h
    · obtain ⟨k, _, hk⟩ := List.any_eq_true.1 h
      simp only [Bool.and_eq_true, Bool.not_eq_true'] at hk
      have := hpre k hk.2
      rw [hk.1] at this; cases this
  | .light i p, alts, hc, hl, _ => by
    simp only [Plan.chk, Bool.and_eq_true] at hc
    rcases hl with hl | hl
    · cases hl
    · have := hc.1.1.1.1.1
      exact absurd (List.isEmpty_iff.1 this) hl
  | .heavy i keep p q, alts, hc, _, hx => by
    simp only [Plan.chk, Bool.and_eq_true, decide_eq_true_eq] at hc
    obtain ⟨⟨⟨⟨⟨h1, h2⟩, h3⟩, h4⟩, h5⟩, h6⟩ := hc
    obtain ⟨hx1, hx2⟩ := hx
    by_cases e : i = j
    · subst e
      have ho : all[i]? = some all[i] := List.getElem?_eq_getElem h1
      rw [nthO_eq, ho] at hx1
      exact .inr ⟨keep, p, h5, h4, _, ho, hx1⟩
    · rcases alts_spec hj hd hpre q (i :: alts) h6 (.inr (by simp)) hx2 with h | h
      · simp only [List.contains_cons, Bool.or_eq_true, beq_iff_eq] at h
        rcases h with h | h
        · exact absurd h.symm e
        · exact .inl h
      · exact .inr h
theorem any_tree {m : Nat} {ro : Option Nat} {Φ : Exit → Act → World → Prop} (hA : AnyOk N m all) {Z0 : Nat → Prop} {G0 : List (Option OG)} {FP0 : Nat → List Nat} {ds : List Nat} {w0 : World}
    (hB : ∀ Z FP w, Evo Z0 FP0 w0 Z FP w → Bo ro B FP w)
    (hend : ∀ T H Z G FP a w, K T H → St N B Z G FP ds T H a w → GLt L G0 G → Evo Z0 FP0 w0 Z FP w → Φ .normal a w) :
    ∀ (fuel : Nat) (listed : Array Bool) (p : Plan) (Ls Ss : List Nat) (rd : List (Nat × List Nat)) (f : Nat → HV) (T : Nat → HV) (H : Heap) (Z : Nat → Prop) (G : List (Option OG)) (FP : Nat → List Nat) (a : Act) (w : World),
    listed.size = all.length → left listed ≤ fuel → Closed all listed → NodeI P N all K T0 p Ls Ss rd f T H (fun k => listed.getD k false) →
    St N B Z G FP ds (tvS all (fun k => listed.getD k false) f T0) H a w → GLt L G0 G → Evo Z0 FP0 w0 Z FP w → wpAnyIn (Wd ro) mm P .any all.toArray Φ fuel listed a w := by
  have hdall : all.all (dstOk N) = true := by
    rw [List.all_eq_true]
    intro o' ho'
    obtain ⟨j', hj'⟩ := List.mem_iff_getElem?.1 ho'
    have := (hA.ok j' o' hj').1
    simp only [operOk, Bool.and_eq_true] at this
    exact this.1
  have fin : ∀ (listed : Array Bool) (p : Plan) (Ls Ss : List Nat) (rd : List (Nat × List Nat)) (f : Nat → HV) (T : Nat → HV) (H : Heap) (Z : Nat → Prop) (G : List (Option OG)) (FP : Nat → List Nat) (a : Act) (w : World),
      (∀ k, k < all.length → listed.getD k false = true) → p.isLight = false → NodeI P N all K T0 p Ls Ss rd f T H (fun k => listed.getD k false) →
      St N B Z G FP ds (tvS all (fun k => listed.getD k false) f T0) H a w → GLt L G0 G → Evo Z0 FP0 w0 Z FP w → Φ .normal a w := by
    intro listed p Ls Ss rd f T H Z G FP a w hall hpl hN hs hG hE
    have hT : tvS all (fun k => listed.getD k false) f T0 = T := by
      rw [hN.teq]
      funext t
      refine tvS_at fun j o ho hd => ?_
      have h1 := hall j (List.getElem?_eq_some_iff.1 ho).1
      rw [h1, hN.sub j h1]
    rw [hT] at hs
    have hc := hN.chk
    have hr := hN.run
    cases p with
    | leaf => exact hend T H Z G FP a w hr hs hG hE
    | stop => simp [Plan.chk] at hc
    | light i p => cases hpl
    | heavy j keep p q =>
      simp only [Plan.chk, Bool.and_eq_true, decide_eq_true_eq, Bool.not_eq_true'] at hc
      have h1 := hc.1.1.1.1.1
      have h2 := hN.sub j (hall j h1)
      rw [hc.1.1.1.1.2] at h2; cases h2
  intro fuel
  induction fuel with
  | zero =>
    intro listed p Ls Ss rd f T H Z G FP a w hsz hf hc hN hs hG hE
    obtain ⟨p', Ls', rd', f', T', hN', hpl, hff⟩ := settle hA p Ls rd f T hN
    rw [tvS_f (f' := f') fun j _ hj => (hff j (hN.sub j hj)).symm] at hs
    have hall := left_zero (Nat.le_zero.1 hf)
    refine ⟨?_, fin listed p' Ls' Ss rd' f' T' H Z G FP a w (fun k hk => hall k (by omega)) hpl hN' hs hG hE⟩
    rw [List.eq_nil_iff_forall_not_mem]
    intro i hi
    obtain ⟨h1, o, ho, _⟩ := mem_ready.1 hi
    rw [List.getElem?_toArray] at ho
    have hi' := (List.getElem?_eq_some_iff.1 ho).1
    have h2 := hall i (by omega)
    rw [Array.getD_eq_getD_getElem?, not_listed h1] at h2
    simp at h2
  | succ fuel ih =>
    intro listed p Ls Ss rd f T H Z G FP a w hsz hf hc hN hs hG hE
    obtain ⟨p', Ls', rd', f', T', hN', hpl, hff⟩ := settle hA p Ls rd f T hN
    rw [tvS_f (f' := f') fun j _ hj => (hff j (hN.sub j hj)).symm] at hs
    clear hN
    refine ⟨fun h0 => ?_, fun i hi => ?_⟩
    · refine fin listed p' Ls' Ss rd' f' T' H Z G FP a w (fun k hk => ?_) hpl hN' hs hG hE
      cases hx : listed.getD k false with
      | true => rfl
      | false =>
        obtain ⟨k', ⟨h1, h2⟩, h3⟩ := exists_least (p := fun k => k < all.length ∧ listed.getD k false = false) ⟨k, hk, hx⟩
        have := ready_least hA hsz h1 h2 (fun j hj => by
          cases hx : listed.getD j false with
          | true => rfl
          | false => have := h3 j ⟨by omega, hx⟩; omega)
        rw [h0] at this; simp at this
    obtain ⟨h1, o, ho, ha⟩ := mem_ready.1 hi
    rw [List.getElem?_toArray] at ho
    have hil := (List.getElem?_eq_some_iff.1 ho).1
    have hnl := not_listed h1
    have hnf : listed.getD i false = false := by rw [Array.getD_eq_getD_getElem?, hnl]; rfl
    obtain ⟨hok, hnd⟩ := hA.ok i o ho
    have hadd := left_add hnl
    have hcl2 := closed_add hc (fun o' ho' e he hb => by rw [ho] at ho'; cases ho'; exact ha e (by simpa using he) hb)
    have hmust : ∀ k, mustB (befs all []) k i = true → listed.getD k false = true := fun k hk => ready_must hA hc hi hk
    have hlt : ∀ k, listed.getD k false = true → k < all.length := fun k hk => hN'.lt k (hN'.sub k hk)
    have hclm : ∀ k, listed.getD k false = true → mustB (befs all []) i k = true → listed.getD i false = true := fun k hk hm => by
      have hkl := hlt k hk
      exact closed_must hA hc k i _ (List.getElem?_eq_getElem hkl) (hc k _ (List.getElem?_eq_getElem hkl) hk) hm
    have hset : ∀ k, (listed.setIfInBounds i true).getD k false = (k == i || listed.getD k false) := fun k => by
      by_cases e : k = i
      · subst e; rw [getD_set_self (by omega)]; simp
      · simp only [Array.getD_eq_getD_getElem?, Array.getElem?_setIfInBounds_ne (Ne.symm e)]
        simp [e]
    have hTadd : ∀ g : Nat → HV, tvS all (fun k => (listed.setIfInBounds i true).getD k false) g T0 = updO (tvS all (fun k => listed.getD k false) g T0) o.dst (g i) := fun g =>
      tvS_add ho (by rw [hset]; simp) hnf (fun k hk => by rw [hset]; simp [hk]) (add_dst hA ho hnf hclm)
    by_cases hdi : dm Ls' Ss i = true
    ·
      have hiL : Ls'.contains i = true := by
        unfold dm at hdi
        rcases Bool.or_eq_true_iff.1 hdi with h | h
        · exact h
        · have : listed.getD i false = true := hN'.hs i h
          rw [hnf] at this; cases this
      obtain ⟨ids, _, h2⟩ := hN'.cert i hiL hnf
      obtain ⟨_, h3⟩ := h2 o ho
      have hcert := h3 H (fun _ _ => rfl)
      have hsee := seen_same (T0 := T0) (f := f') hA ho hmust hnf hclm hlt
      refine certG_run hdall ho hok hnd (CertG_congr hsee hcert) hs fun Z' G' FP' a' w' hs2 hG' hE' => ?_
      refine ih (listed.setIfInBounds i true) p' Ls' Ss rd' f' T' H Z' G' FP' a' w' (by simpa using hsz) (by omega) hcl2 ?_ (by rw [hTadd]; exact hs2) (hG.trans (GLt.of hG.len hG')) (hE.trans hE')
      refine ⟨hN'.chk, hN'.run, hN'.teq, hN'.closed, hN'.lt, fun k hk => ?_, fun k hk => ?_, fun k hk hl => ?_⟩
      · rw [hset] at hk
        simp only [Bool.or_eq_true, beq_iff_eq] at hk
        rcases hk with rfl | hk
        · exact hdi
        · exact hN'.sub k hk
      · rw [hset, hN'.hs k hk]; simp
      · rw [hset] at hl
        exact hN'.cert k hk (Bool.or_eq_false_iff.1 hl).2
    ·
      have hdi : dm Ls' Ss i = false := by simpa using hdi
      have hpre : ∀ k, mustB (befs all []) k i = true → dm Ls' Ss k = true := fun k hk => hN'.sub k (hmust k hk)
      rcases alts_spec hil hdi hpre p' [] hN'.chk (.inl hpl) hN'.run with h | ⟨keep, p2, hc2, hk2, o', ho', hx⟩
      · simp at h
      rw [ho] at ho'; cases ho'
      have hcl : ∀ k, dm Ls' Ss k = true → mustB (befs all []) i k = true → dm Ls' Ss i = true := fun k h1 h2 => hN'.closed k i h1 h2
      have hsee : ∀ t ∈ seenT all o, T' t = tvS all (fun k => listed.getD k false) f' T0 t := fun t ht => by
        rw [hN'.teq, ← seen_same (T0 := T0) (f := f') hA ho hpre hdi hcl hN'.lt t ht]
        exact seen_same (T0 := T0) (f := f') hA ho hmust hnf hclm hlt t ht
      refine exG_run (L := L) hdall ho hok hnd (exG_shift hsee hx) hs (hB Z FP w hE) hG.len fun T2 H2 Z' G' FP' a' w' hkk hs2 hG' hE' => ?_
      obtain ⟨x, rfl, hag, hrun⟩ := hkk
      let f1 : Nat → HV := fun k => if k = i then x else f' k
      have f1i : f1 i = x := if_pos rfl
      have f1n : ∀ k, dm Ls' Ss k = true → f' k = f1 k := fun k hk => by
        have : k ≠ i := fun e => by rw [e, hdi] at hk; cases hk
        exact (if_neg this).symm
      refine ih (listed.setIfInBounds i true) p2 Ls' (i :: Ss) rd' f1 (updO T' o.dst x) H2 Z' G' FP' a' w' (by simpa using hsz) (by omega) hcl2 ?_ ?_ (hG.trans hG') (hE.trans hE')
      · refine ⟨hc2, hrun, ?_, fun a k ha hm => ?_, fun a ha => ?_, fun a ha => ?_, fun a ha => ?_, fun a ha hl => ?_⟩
        · rw [hN'.teq, tvS_f (f' := f1) fun j _ hj => f1n j hj, ← f1i]
          exact (tvS_add ho (by rw [dm_cons']; simp) hdi (fun k hk => by rw [dm_cons']; simp [hk]) (add_dst hA ho hdi hcl)).symm
        · rw [dm_cons'] at ha ⊢
          simp only [Bool.or_eq_true, beq_iff_eq] at ha ⊢
          rcases ha with rfl | ha
          · exact .inr (hpre k hm)
          · exact .inr (hN'.closed a k ha hm)
        · rw [dm_cons'] at ha
          simp only [Bool.or_eq_true, beq_iff_eq] at ha
          rcases ha with rfl | ha
          · exact hil
          · exact hN'.lt a ha
        · rw [hset] at ha
          rw [dm_cons']
          simp only [Bool.or_eq_true, beq_iff_eq] at ha ⊢
          exact ha.imp id fun ha => hN'.sub a ha
        · rw [hset]
          simp only [List.contains_cons, Bool.or_eq_true, beq_iff_eq] at ha ⊢
          exact ha.imp id fun ha => hN'.hs a ha
        · rw [hset] at hl
          obtain ⟨e, hl⟩ := Bool.or_eq_false_iff.1 hl
          have hda : dm Ls' Ss a = true := by unfold dm; rw [ha]; rfl
          obtain ⟨ids, h1, h2⟩ := hN'.cert a ha hl
          refine ⟨ids, h1, fun o' ho' => ⟨(h2 o' ho').1, fun H' hH' => ?_⟩⟩
          have hka : keep.contains a = true := by
            have := List.all_eq_true.1 hk2 a (by simpa using ha)
            rcases Bool.or_eq_true_iff.1 this with hm | hk
            · have := hmust a hm
              rw [hl] at this; cases this
            · exact hk
          have := (h2 o' ho').2 H' (fun id hid => (hH' id hid).trans (agreeK_spec hag _ h1 hka id hid))
          rw [f1n a hda] at this
          rw [tvS_f (f' := f1) fun j _ hj => f1n j (hN'.closed a j hda hj)] at this
          exact this
      · rw [hTadd, f1i, ← tvS_f (f := f') fun j _ hj => f1n j (hN'.sub j hj)]
        exact hs2
theorem HW.tree {id : Nat} {Q : Exit → KS} {T : Nat → HV} {H : Heap} (n : Nat) (p : Plan) (hm : P.follows .mixedOrders = true) (hB : anyB N all.length all = true) (hp : p.chk all (befs all []) [] [] [] = true)
    (h : exT P all (ex P N L Q n []) p [] T H) : HW P N L (.region id all.toArray true) Q T H := by
  intro ro mm B Z G FP ds a w hB' hL hst
  have hA := anyB_spec hB
  have hEv : Evo Z FP w Z FP { w with drawn := w.drawn + 1 } := ⟨rfl, rfl, rfl, Nat.le_refl _, fun _ _ _ => rfl, fun _ h => h, fun _ h => .inl h, fun id b hb => .inr ⟨id, hb⟩⟩
  have hi : HInv Z G FP H { w with drawn := w.drawn + 1 } := hst.inv.keep (Nat.le_refl _) (fun _ _ => rfl)
  have hs' := hst.evo hi (GLe.refl _) hEv
  have hrep : ∀ k, (Array.replicate all.toArray.size false).getD k false = false := fun k => by
    simp only [Array.getD_eq_getD_getElem?]
    by_cases hlt : k < all.toArray.size
    · rw [Array.getElem?_eq_getElem (by simpa using hlt)]
      simp
    · rw [Array.getElem?_eq_none (by simpa using hlt)]; rfl
  have e : ∀ g, tvS all (fun k => (Array.replicate all.toArray.size false).getD k false) g T = T := fun g => by
    funext t
    unfold tvS
    rw [runM_no]
    intro j _
    exact hrep _
  have e2 : ∀ g, tvS all (dm [] []) g T = T := fun g => by
    funext t
    unfold tvS
    rw [runM_no]
    intro j _
    rfl
  refine wpIn_region_any hm ?_
  refine any_tree (K := ex P N L Q n []) (T0 := T) (B := B) (L := L) (Z0 := Z) (G0 := G) (FP0 := FP) (ds := ds) (w0 := w) hA (fun Z' FP' w' hE => hB'.evo hE) ?_ _ _ p [] [] [] (fun _ => .any) T H Z G FP _ _ (by simp) ?_ ?_ ?_ ?_ (GLt.refl hL) hEv
  · intro T1 H1 Z1 G1 FP1 a1 w1 hK hs1 hG1 hE1
    exact ex_run n [] T1 H1 hK (by simp) ro mm B Z G FP w Z1 G1 FP1 ds a1 w1 (hB'.evo hE1) hs1 hG1 hE1
  · have : ∀ k : Nat, left (Array.replicate k false) = k := by intro k; simp [left]
    rw [this]; simp
  · intro j o hj hl
    rw [hrep] at hl; cases hl
  · exact ⟨hp, h, (e2 _).symm, fun i k hi => (by simp [dm] at hi), fun i hi => (by simp [dm] at hi), fun i hi => (by rw [hrep] at hi; cases hi), fun i hi => (by simp at hi), fun i hi => (by simp at hi)⟩
  · rw [e]; exact hs'
def onlyN (R : KS) : Exit → KS
  | .normal => R
  | _ => fun _ _ => False
theorem HW.treeI {id : Nat} {Q : Exit → KS} {T : Nat → HV} {H : Heap} (I : KS) (p : Plan) (hm : P.follows .mixedOrders = true) (hB : anyB N all.length all = true) (hp : p.chk all (befs all []) [] [] [] = true)
    (h : exT P all (GQ N L I) p [] T H) (k : ∀ T H, I T H → Q .normal T H) : HW P N L (.region id all.toArray true) Q T H := by
  refine HW.weaken (Q' := onlyN (GQ N L I)) (HW.tree 1 p hm hB hp h) fun e T' H' hq => ?_
  cases e with
  | normal =>
    obtain ⟨T2, H2, g, hi⟩ := hq
    exact ⟨T2, H2, g, k _ _ hi⟩
  | _ => exact hq.elim
end
section
variable {P : Program} {all l : List Oper} {K : KS} {k : List Item → KS} {p q : Plan} {rd : List (Nat × List Nat)} {T : Nat → HV} {H H' : Heap} {i j : Nat} {keep : List Nat} {d : Option Nat} {r : List Item}
def contQ (P : Program) (all : List Oper) (K : KS) (p : Plan) (rd : List (Nat × List Nat)) (i : Nat) (ids : List Nat) (H : Heap) : List Item → KS := fun _ T' _ => exT P all K p ((i, ids) :: rd) T' H
def contT (P : Program) (all : List Oper) (K : KS) (p : Plan) (rd : List (Nat × List Nat)) (keep : List Nat) (H : Heap) : List Item → KS := fun _ T' H' => withH H' fun H' => agreeK keep H H' rd ∧ exT P all K p rd T' H'
theorem contQ_at {ids : List Nat} : contQ P all K p rd i ids H r T H' = exT P all K p ((i, ids) :: rd) T H := rfl
theorem contT_at : contT P all K p rd keep H r T H' = withH H' fun H' => agreeK keep H H' rd ∧ exT P all K p rd T H' := rfl
theorem exT_leaf : exT P all K .leaf rd T H = K T H := rfl
theorem exT_stop : exT P all K .stop rd T H = True := rfl
theorem exT_light : exT P all K (.light i p) rd T H = atO (nthO all i) fun o => withI (idsO T o.op) fun ids => exGq (contQ P all K p rd i ids H) P all o [] [] T H := rfl
theorem exT_heavy1 : exT P all K (.heavy j keep p .stop) rd T H = atO (nthO all j) fun o => exG (contT P all K p rd keep H) P all o [] [] T H := and_true _
theorem exT_heavy {j' : Nat} {keep' : List Nat} {p' q' : Plan} : exT P all K (.heavy j keep p (.heavy j' keep' p' q')) rd T H = ((atO (nthO all j) fun o => exG (contT P all K p rd keep H) P all o [] [] T H) ∧ exT P all K (.heavy j' keep' p' q') rd T H) := rfl
theorem nthO_zero {o : Oper} : nthO (o :: l) 0 = some o := rfl
theorem nthO_succ {o : Oper} {i : Nat} : nthO (o :: l) (i + 1) = nthO l i := rfl
theorem atO_some {o : Oper} {f : Oper → Prop} : atO (some o) f = f o := rfl
theorem atO_congr {r r' : Option Oper} {f : Oper → Prop} (h : r = r') : atO r f = atO r' f := by rw [h]
theorem withI_congr {a b : List Nat} {f : List Nat → Prop} (h : a = b) : withI a f = withI b f := by rw [h]
theorem withH_congr {f : Heap → Prop} (h : H = H') : withH H f = withH H' f := by rw [h]
theorem withI_eq {a : List Nat} {f : List Nat → Prop} : withI a f = f a := rfl
theorem withH_eq {f : Heap → Prop} : withH H f = f H := rfl
theorem callX_congr2 {fid : Nat} {args args' : List HV} (hH : H = H') (ha : args = args') : callX k P fid H args all d l r T = callX k P fid H' args' all d l r T := by rw [hH, ha]
theorem yieldX_congr2 {id : Nat} {args args' : List HV} (hH : H = H') (ha : args = args') : yieldX k P id H args all d l r T = yieldX k P id H' args' all d l r T := by rw [hH, ha]
theorem exGq_none {op : Op} {ty : TypeId} {pos : String} {af : Array Edge} : exGq k P all ⟨d, op, ty, pos, af, none⟩ l r T H = exOq k P all d op l r T H := rfl
theorem exGq_some {op : Op} {ty : TypeId} {pos : String} {af : Array Edge} {b : Bool} : exGq k P all ⟨d, op, ty, pos, af, some (i, b)⟩ l r T H = exBq k P (dstAt all i) b all d op l r T H := rfl
theorem exG_none {op : Op} {ty : TypeId} {pos : String} {af : Array Edge} : exG k P all ⟨d, op, ty, pos, af, none⟩ l r T H = exO k P all d op l r T H := rfl
theorem exG_some {op : Op} {ty : TypeId} {pos : String} {af : Array Edge} {b : Bool} : exG k P all ⟨d, op, ty, pos, af, some (i, b)⟩ l r T H = exB k P (dstAt all i) b all d op l r T H := rfl
theorem sameAt_nil : sameAt H H' [] = True := rfl
theorem sameAt_cons {l : List Nat} : sameAt H H' (i :: l) = (getO H' i = getO H i ∧ sameAt H H' l) := rfl
theorem agree1_true {ids : List Nat} : agree1 H H' ids true = sameAt H H' ids := rfl
theorem agree1_false {ids : List Nat} : agree1 H H' ids false = True := rfl
theorem agree1_congr {ids : List Nat} {b c : Bool} (h : b = c) : agree1 H H' ids b = agree1 H H' ids c := by rw [h]
theorem agreeK_nil : agreeK keep H H' [] = True := rfl
theorem agreeK_cons {e : Nat × List Nat} : agreeK keep H H' (e :: rd) = (agree1 H H' e.2 (keep.contains e.1) ∧ agreeK keep H H' rd) := rfl
theorem agreeK_keep : agreeK [] H H' rd = True := by
  induction rd with
  | nil => rfl
  | cons e rd ih => rw [agreeK_cons, ih]; simp [agree1]
theorem idsO_buildSlice {t : TypeId} {len : Nat} {ps : Array (Nat × Operand)} : idsO T (.buildSlice t len ps) = [] := rfl
theorem idsO_load {t : TypeId} {x : Operand} : idsO T (.load t x) = idsV (hev T x) := by simp [idsO, indep, Op.operands]
theorem idsO_nilCheck {x : Operand} : idsO T (.nilCheck x) = idsV (hev T x) := by simp [idsO, indep, Op.operands]
theorem idsO_convert {s t : TypeId} {x : Operand} : idsO T (.convert s t x) = idsV (hev T x) := by simp [idsO, indep, Op.operands]
theorem idsO_fieldAddr {t : TypeId} {x : Operand} {i : Nat} : idsO T (.fieldAddr t x i) = idsV (hev T x) := by simp [idsO, indep, Op.operands]
theorem idsO_indexAddr {t : TypeId} {x y : Operand} : idsO T (.indexAddr t x y) = idsV (hev T x) ++ idsV (hev T y) := by simp [idsO, indep, Op.operands]
theorem idsO_len {x : Operand} {t : TypeId} : idsO T (.call { callee := .builtin .len, args := #[x], argTypes := #[t] }) = idsV (hev T x) := by simp [idsO, indep, Op.operands, Call.operands]
theorem idsO_max {x y : Operand} {t u : TypeId} : idsO T (.call { callee := .builtin .max, args := #[x, y], argTypes := #[t, u] }) = idsV (hev T x) ++ idsV (hev T y) := by simp [idsO, indep, Op.operands, Call.operands]
theorem idsO_min {x y : Operand} {t u : TypeId} : idsO T (.call { callee := .builtin .min, args := #[x, y], argTypes := #[t, u] }) = idsV (hev T x) ++ idsV (hev T y) := by simp [idsO, indep, Op.operands, Call.operands]
theorem idsO_slice2 {x : Operand} {t : TypeId} : idsO T (.slice t x none none none) = idsV (hev T x) := by simp [idsO, indep, Op.operands]
theorem idsO_slice4 {x y : Operand} {t : TypeId} : idsO T (.slice t x (some y) none none) = idsV (hev T x) ++ idsV (hev T y) := by simp [idsO, indep, Op.operands]
theorem idsO_slice1 {x y z : Operand} {t : TypeId} : idsO T (.slice t x (some y) (some z) none) = idsV (hev T x) ++ (idsV (hev T y) ++ idsV (hev T z)) := by simp [idsO, indep, Op.operands]
theorem idsO_slice3 {x y : Operand} {t : TypeId} : idsO T (.slice t x none (some y) none) = idsV (hev T x) ++ idsV (hev T y) := by simp [idsO, indep, Op.operands]
theorem idsO_move {x : Operand} : idsO T (.move x) = [] := rfl
theorem idsO_assign {x : Operand} : idsO T (.assign x) = [] := rfl
theorem idsO_pick {x y z : Operand} : idsO T (.pick x y z) = [] := rfl
theorem idsO_build {t : TypeId} {ps : Array (Nat × Operand)} : idsO T (.build t ps) = [] := rfl
theorem idsO_bin {op : BinOp} {t t' : TypeId} {x y : Operand} : idsO T (.binOp op t x y t') = [] := rfl
theorem idsO_un {op : UnOp} {t : TypeId} {x : Operand} : idsO T (.unOp op t x) = [] := rfl
theorem idsO_iface {t : TypeId} {x : Operand} : idsO T (.makeInterface t x) = [] := rfl
theorem idsO_func {f : Fn} {xs ys : Array Operand} : idsO T (.makeFunc f xs ys) = [] := rfl
theorem idsO_field {t : TypeId} {x : Operand} {i : Nat} : idsO T (.field t x i) = [] := rfl
theorem idsO_index {t : TypeId} {x i : Operand} : idsO T (.index t x i) = [] := rfl
theorem idsO_extract {x : Operand} {i : Nat} : idsO T (.extract x i) = [] := rfl
theorem idsV_hd {a b c : Nat} : idsV (.hd a b c) = [a] := rfl
theorem idsV_pt {a b c e : Nat} : idsV (.pt a b c e) = [a] := rfl
theorem idsV_v {x : Value} : idsV (.v x) = [] := rfl
theorem idsV_sl {x : List (List HV)} : idsV (.sl x) = [] := rfl
theorem idsV_fp {x : List (List HV)} {a b : Nat} : idsV (.fp x a b) = [] := rfl
theorem idsV_fn {x : List HV} {a : Nat} : idsV (.fn a x) = [] := rfl
theorem idsV_ic {x : HV} {a : Nat} : idsV (.ic a x) = [] := rfl
theorem idsV_ag {x : List HV} : idsV (.ag x) = [] := rfl
end
attribute [congr] atO_congr withI_congr withH_congr agree1_congr callX_congr2 yieldX_congr2
attribute [go_sem] withI_eq withH_eq sameAt_nil sameAt_cons agree1_true agree1_false idsV_hd idsV_pt idsV_v idsV_sl idsV_fp idsV_fn idsV_ic idsV_ag List.append_nil List.isEmpty_nil
attribute [go_sem ↓] contQ_at contT_at exT_leaf exT_stop exT_light exT_heavy1 exT_heavy nthO_zero nthO_succ atO_some exGq_none exGq_some exG_none exG_some agreeK_keep agreeK_nil agreeK_cons idsO_buildSlice idsO_load idsO_nilCheck idsO_convert idsO_fieldAddr idsO_indexAddr idsO_len idsO_max idsO_min idsO_slice1 idsO_slice2 idsO_slice3 idsO_slice4 idsO_move idsO_assign idsO_pick idsO_build idsO_bin idsO_un idsO_iface idsO_func idsO_field idsO_index idsO_extract
end Go.Proofs.YtokigghopmopbaaGreatDoor
namespace Go.Proofs.YtokigghopmopbaaGreatDoor
open Go.RowKit
set_option maxRecDepth 8000
theorem int_ltE {a b : Nat} : ((a : Int) < (b : Int)) = (a < b) := by simp
theorem tfE (p : Prop) : (p ∧ p = True) ∨ (¬ p ∧ p = False) := by
  by_cases h : p
  · exact .inl ⟨h, eq_true h⟩
  · exact .inr ⟨h, eq_false h⟩
def wideT (t : Thd) : Bool := decide (300 < t.regs.length) || decide (300 < t.buf.length)
def wideB (s : Sta) : Bool := decide (300 < s.mem.length) || decide (9 < s.ths.length) || s.ths.any wideT
set_option maxHeartbeats 4000000 in
theorem lawWide (s : Sta) : HFn Tryz.prog 5 [staH s] (.v (.bool (wideB s))) := by
  refine HCalls_body (fn := Tryz.f5) 39 [2] (by kernel_rfl) rfl (by kernel_rfl) (HW.run 400 (by kernel_rfl) ?_)
  rcases tfE ((300 : Int) < (s.mem.length : Int)) with ⟨d1, c1⟩ | ⟨d1, c1⟩
  · simp (config := { decide := true }) only [go_sem, Int.reduceToNat, Nat.reduceAdd, Nat.reduceSub, Nat.reduceMul, Nat.reduceBEq, reduceIte, reduceCtorEq, c1]
    exact vb (by unfold wideB; rw [decide_eq_true (by omega)]; rfl)
  have e1 : decide (300 < s.mem.length) = false := decide_eq_false (by omega)
  rcases tfE ((9 : Int) < (s.ths.length : Int)) with ⟨d2, c2⟩ | ⟨d2, c2⟩
  · simp (config := { decide := true }) only [go_sem, Int.reduceToNat, Nat.reduceAdd, Nat.reduceSub, Nat.reduceMul, Nat.reduceBEq, reduceIte, reduceCtorEq, c1, c2]
    exact vb (by unfold wideB; rw [e1, decide_eq_true (by omega)]; rfl)
  have e2 : decide (9 < s.ths.length) = false := decide_eq_false (by omega)
  simp (config := { decide := true }) only [go_sem, Int.reduceToNat, Nat.reduceAdd, Nat.reduceSub, Nat.reduceMul, Nat.reduceBEq, reduceIte, reduceCtorEq, c1, c2]
  refine HW.loopG (fun k T H => ∃ i : Nat, k = s.ths.length - i ∧ i ≤ s.ths.length ∧ (∀ j, j < i → ∀ t, s.ths[j]? = some t → wideT t = false) ∧ T 1 = .pt 0 1 0 0 ∧ T 3 = .v (.int .i64 i) ∧ H = [some ⟨25, 2, [[.sl (ints s.mem), .sl (thds s.ths)]]⟩]) s.ths.length ⟨_, _, Ghost.refl, 0, rfl, by omega, by simp, rfl, rfl, rfl⟩ ?_
  rintro k T H ⟨i, rfl, hi, hno, h1, h3, rfl⟩
  refine HW.run 200 (by kernel_rfl) ?_
  by_cases hlt : i < s.ths.length
  · have hlt' : ((i : Int) < (s.ths.length : Int)) = True := by rw [int_ltE]; simp [hlt]
    have hx : s.ths[i]? = some s.ths[i] := List.getElem?_eq_getElem hlt
    generalize s.ths[i] = t at hx
    have isw : wideT t = true → wideB s = true := fun h => by
      unfold wideB
      rw [Bool.or_eq_true, List.any_eq_true]
      exact .inr ⟨t, List.mem_of_getElem? hx, h⟩
    rcases tfE ((300 : Int) < (t.regs.length : Int)) with ⟨d3, c3⟩ | ⟨d3, c3⟩
    · simp (config := { decide := true }) only [go_sem, Int.reduceToNat, Nat.reduceAdd, Nat.reduceSub, Nat.reduceMul, Nat.reduceBEq, reduceIte, reduceCtorEq, h1, h3, hlt', hx, c3]
      exact vb (isw (by unfold wideT; rw [decide_eq_true (by omega)]; rfl)).symm
    · rcases tfE ((300 : Int) < (t.buf.length : Int)) with ⟨d4, c4⟩ | ⟨d4, c4⟩
      · simp (config := { decide := true }) only [go_sem, Int.reduceToNat, Nat.reduceAdd, Nat.reduceSub, Nat.reduceMul, Nat.reduceBEq, reduceIte, reduceCtorEq, h1, h3, hlt', hx, c3, c4]
        exact vb (isw (by unfold wideT; rw [decide_eq_true (show 300 < t.buf.length by omega)]; simp)).symm
      · simp (config := { decide := true }) only [go_sem, Int.reduceToNat, Nat.reduceAdd, Nat.reduceSub, Nat.reduceMul, Nat.reduceBEq, reduceIte, reduceCtorEq, h1, h3, hlt', hx, c3, c4]
        refine ⟨_, _, Ghost.refl, s.ths.length - (i + 1), by omega, i + 1, rfl, by omega, ?_, ?_, ?_, rfl⟩
        · intro j hj u hu
          rcases Nat.lt_or_ge j i with h | h
          · exact hno j h u hu
          · obtain rfl : j = i := by omega
            rw [hx] at hu; cases hu
            unfold wideT
            rw [decide_eq_false (by omega), decide_eq_false (by omega)]; rfl
        all_goals first | (simp (config := { decide := true }) only [go_sem, Nat.reduceBEq, reduceIte, h1]; done) | (simp (config := { decide := true }) only [go_sem, Nat.reduceBEq, reduceIte]; rw [w64 (by omega) (by omega)]; rfl)
  · have hlt' : ((i : Int) < (s.ths.length : Int)) = False := by rw [int_ltE]; simp [hlt]
    simp (config := { decide := true }) only [go_sem, Int.reduceToNat, Nat.reduceAdd, Nat.reduceSub, Nat.reduceMul, Nat.reduceBEq, reduceIte, reduceCtorEq, h1, h3, hlt']
    refine vb ?_
    unfold wideB
    rw [e1, e2, eq_comm, Bool.false_or, Bool.false_or, List.any_eq_false]
    intro t ht
    obtain ⟨j, hj⟩ := List.getElem?_of_mem ht
    have := hno j (by have := (List.getElem?_eq_some_iff.1 hj).1; omega) t hj
    rw [this]; simp
def sameL : List Thd → List Thd → Bool
  | [], [] => true
  | x :: a, y :: b => sameT x y && sameL a b
  | _, _ => false
def sameS (s t : Sta) : Bool := decide (s.mem = t.mem) && sameL s.ths t.ths
theorem sameT_iff {x y : Thd} : sameT x y = true ↔ x = y := by
  obtain ⟨a, b, c, d⟩ := x
  obtain ⟨a', b', c', d'⟩ := y
  unfold sameT
  simp only [Bool.and_eq_true, decide_eq_true_eq, Thd.mk.injEq]
  constructor
  · rintro ⟨h1, h2, h3, h4⟩; exact ⟨h1, h3, h2, h4⟩
  · rintro ⟨h1, h2, h3, h4⟩; exact ⟨h1, h3, h2, h4⟩
theorem sameL_iff : ∀ {a b : List Thd}, sameL a b = true ↔ a = b
  | [], [] => by simp [sameL]
  | [], y :: b => by simp [sameL]
  | x :: a, [] => by simp [sameL]
  | x :: a, y :: b => by simp [sameL, sameT_iff, sameL_iff (a := a) (b := b)]
theorem sameS_iff {s t : Sta} : sameS s t = true ↔ s = t := by
  obtain ⟨a, b⟩ := s
  obtain ⟨a', b'⟩ := t
  simp [sameS, sameL_iff]
theorem sameS_ne {s t : Sta} (h : s ≠ t) : sameS s t = false := by
  cases e : sameS s t with
  | false => rfl
  | true => exact absurd (sameS_iff.1 e) h
structure SmallS (s : Sta) : Prop where
  mem : s.mem.length ≤ 300000
  ths : s.ths.length ≤ 2000
  t : ∀ t ∈ s.ths, t.regs.length ≤ 300000 ∧ t.buf.length ≤ 300000
set_option maxHeartbeats 4000000 in
theorem refSameSt (s z : Sta) (hs : SmallS s) : HFn Tryz.prog 15 [staH s, staH z] (.v (.bool (sameS s z))) := by
  refine HCalls_body (fn := Tryz.f15) 40 [4] (by kernel_rfl) rfl (by kernel_rfl) (HW.run 400 (by kernel_rfl) ?_)
  simp (config := { decide := true }) only [go_sem, Int.reduceToNat, Nat.reduceAdd, Nat.reduceSub, Nat.reduceMul, Nat.reduceBEq, reduceIte, reduceCtorEq]
  refine callX_nm (refSameInts s.mem z.mem (by have := hs.mem; omega)) rfl rfl ?_
  by_cases hm : s.mem = z.mem
  case neg =>
    rw [decide_eq_false hm]
    simp (config := { decide := true }) only [go_sem, Int.reduceToNat, Nat.reduceAdd, Nat.reduceSub, Nat.reduceMul, Nat.reduceBEq, reduceIte, reduceCtorEq]
    exact vb (sameS_ne fun e => hm (by rw [e])).symm
  rw [decide_eq_true hm]
  by_cases hl : s.ths.length = z.ths.length
  case neg =>
    have hl' : ((s.ths.length : Int) = (z.ths.length : Int)) = False := by rw [len_eq]; simp [hl]
    simp (config := { decide := true }) only [go_sem, Int.reduceToNat, Nat.reduceAdd, Nat.reduceSub, Nat.reduceMul, Nat.reduceBEq, reduceIte, reduceCtorEq, hl']
    exact vb (sameS_ne fun e => hl (by rw [e])).symm
  have hl' : ((s.ths.length : Int) = (z.ths.length : Int)) = True := by rw [len_eq]; simp [hl]
  have hsl := hs.ths
  simp (config := { decide := true }) only [go_sem, Int.reduceToNat, Nat.reduceAdd, Nat.reduceSub, Nat.reduceMul, Nat.reduceBEq, reduceIte, reduceCtorEq, hl']
  refine HW.loopG (fun k T H => ∃ i : Nat, k = s.ths.length - i ∧ i ≤ s.ths.length ∧ s.ths.take i = z.ths.take i ∧ T 2 = .pt 0 1 0 0 ∧ T 3 = .pt 1 1 0 0 ∧ T 5 = .v (.int .i64 i) ∧
    H = [some ⟨25, 2, [[.sl (ints s.mem), .sl (thds s.ths)]]⟩, some ⟨25, 2, [[.sl (ints z.mem), .sl (thds z.ths)]]⟩]) s.ths.length ⟨_, _, Ghost.refl, 0, rfl, by omega, by simp, rfl, rfl, rfl, rfl⟩ ?_
  rintro k T H ⟨i, rfl, hi, heq, h2, h3, h5, rfl⟩
  refine HW.run 200 (by kernel_rfl) ?_
  by_cases hlt : i < s.ths.length
  · have hlt' : ((i : Int) < (s.ths.length : Int)) = True := by rw [int_ltE]; simp [hlt]
    have hlt2 : ((i : Int) < (z.ths.length : Int)) = True := by rw [int_ltE]; simp; omega
    have hx : s.ths[i]? = some s.ths[i] := List.getElem?_eq_getElem hlt
    have hy : z.ths[i]? = some (z.ths[i]'(by omega)) := List.getElem?_eq_getElem (by omega)
    obtain ⟨b1, b2⟩ := hs.t _ (List.getElem_mem hlt)
    generalize s.ths[i] = x at hx b1 b2
    generalize z.ths[i]'(by omega) = y at hy
    simp (config := { decide := true }) only [go_sem, Int.reduceToNat, Nat.reduceAdd, Nat.reduceSub, Nat.reduceMul, Nat.reduceBEq, reduceIte, reduceCtorEq, h2, h3, h5, hlt', hlt2, hx, hy]
    repeat (with_reducible refine And.intro ?_ ?_; · (with_reducible and_intros) <;> omega)
    refine HW.tree 1 (.light 0 (.light 1 (.light 2 (.light 3 (.light 4 (.light 5 (.light 6 (.light 7 (.light 8 (.light 9 (.heavy 10 [] (.light 11 .leaf) .stop))))))))))) follows (by kernel_rfl) (by kernel_rfl) ?_
    simp (config := { decide := true }) only [go_sem, Int.reduceToNat, Nat.reduceAdd, Nat.reduceSub, Nat.reduceMul, Nat.reduceBEq, reduceIte, reduceCtorEq, h2, h3, h5, hlt', hlt2, hx, hy]
    refine callX_nm (refSameTh x y ⟨by omega, by omega⟩) rfl rfl ?_
    cases ht : sameT x y with
    | false =>
      simp (config := { decide := true }) only [go_sem, Int.reduceToNat, Nat.reduceAdd, Nat.reduceSub, Nat.reduceMul, Nat.reduceBEq, reduceIte, reduceCtorEq, h2, h3, h5, hlt', hlt2, hx, hy]
      refine vb (sameS_ne fun e => ?_).symm
      rw [e] at hx
      rw [hx] at hy
      cases hy
      rw [sameT_iff.2 rfl] at ht; cases ht
    | true =>
      simp (config := { decide := true }) only [go_sem, Int.reduceToNat, Nat.reduceAdd, Nat.reduceSub, Nat.reduceMul, Nat.reduceBEq, reduceIte, reduceCtorEq, h2, h3, h5, hlt', hlt2, hx, hy]
      obtain rfl := sameT_iff.1 ht
      refine GQ.done ⟨s.ths.length - (i + 1), by omega, i + 1, rfl, by omega, take_next heq hx hy, ?_, ?_, ?_, rfl⟩
      all_goals first | (simp (config := { decide := true }) only [go_sem, Nat.reduceBEq, reduceIte, h2, h3]; done) | (simp (config := { decide := true }) only [go_sem, Nat.reduceBEq, reduceIte, h5]; rw [w64 (by omega) (by omega)]; rfl)
  · have hlt' : ((i : Int) < (s.ths.length : Int)) = False := by rw [int_ltE]; simp [hlt]
    simp (config := { decide := true }) only [go_sem, Int.reduceToNat, Nat.reduceAdd, Nat.reduceSub, Nat.reduceMul, Nat.reduceBEq, reduceIte, reduceCtorEq, h2, h3, h5, hlt']
    refine vb (sameS_iff.2 ?_).symm
    have := take_all heq hl (by omega)
    obtain ⟨a, b⟩ := s
    obtain ⟨a', b'⟩ := z
    simp only at hm this
    rw [hm, this]
end Go.Proofs.YtokigghopmopbaaGreatDoor
namespace Go.Proofs.YtokigghopmopbaaGreatDoor
open Go.RowKit
set_option maxRecDepth 8000
def flatW (b : List (Int × Int)) : List Int := b.flatMap fun w => [w.1, w.2]
def numsT (t : Thd) : List Int := [t.pc, (if t.eq = true then 1 else 0), t.regs.length] ++ t.regs ++ [(t.buf.length : Int)] ++ flatW t.buf
def numsB (s : Sta) : List Int := [(s.mem.length : Int)] ++ s.mem ++ [(s.ths.length : Int)] ++ s.ths.flatMap numsT
theorem flatW_len (b : List (Int × Int)) : (flatW b).length = 2 * b.length := by
  unfold flatW
  induction b with
  | nil => rfl
  | cons w b ih => rw [List.flatMap_cons, List.length_append, ih]; simp; omega
theorem numsT_len {t : Thd} (h : t.regs.length ≤ 300000 ∧ t.buf.length ≤ 300000) : (numsT t).length ≤ 900004 := by
  unfold numsT
  simp only [List.length_append, flatW_len, List.length_cons, List.length_nil]
  omega
theorem flatT_len {l : List Thd} (h : ∀ t ∈ l, t.regs.length ≤ 300000 ∧ t.buf.length ≤ 300000) : (l.flatMap numsT).length ≤ 900004 * l.length := by
  induction l with
  | nil => simp
  | cons t l ih =>
    rw [List.flatMap_cons, List.length_append, List.length_cons]
    have h1 := numsT_len (h t (by simp))
    have h2 := ih fun t ht => h t (by simp [ht])
    omega
theorem flatMap_snoc {l : List Thd} {i : Nat} {x : Thd} (hx : l[i]? = some x) : (l.take (i + 1)).flatMap numsT = (l.take i).flatMap numsT ++ numsT x := by
  rw [List.take_add_one, hx]; simp
theorem flatW_snoc {l : List (Int × Int)} {i : Nat} {x : Int × Int} (hx : l[i]? = some x) : flatW (l.take (i + 1)) = flatW (l.take i) ++ [x.1, x.2] := by
  unfold flatW
  rw [List.take_add_one, hx]; simp
set_option maxHeartbeats 8000000 in
theorem encNums (s : Sta) (hs : SmallS s) : HFn Tryz.prog 11 [staH s] (owInts (numsB s)) := by
  have b1 := hs.mem
  have b2 := hs.ths
  refine HCalls_body (fn := Tryz.f11) 67 [2] (by kernel_rfl) rfl (by kernel_rfl) (HW.run 400 (by kernel_rfl) ?_)
  simp (config := { decide := true }) only [go_sem, Int.reduceToNat, Nat.reduceAdd, Nat.reduceSub, Nat.reduceMul, Nat.reduceBEq, reduceIte, reduceCtorEq]
  refine ⟨⟨by omega, by omega⟩, ⟨by omega, by omega, by omega⟩, ?_⟩
  refine HW.loopG (fun k T H => ∃ (i : Nat) (out : List Int), k = s.ths.length - i ∧ i ≤ s.ths.length ∧ out = [(s.mem.length : Int)] ++ s.mem ++ [(s.ths.length : Int)] ++ (s.ths.take i).flatMap numsT ∧ T 3 = .hd 1 0 out.length ∧ T 23 = .sl (thds s.ths) ∧ T 24 = .v (.int .i64 s.ths.length) ∧ T 25 = .v (.int .i64 i) ∧
    H = [some ⟨25, 2, [[.sl (ints s.mem), .sl (thds s.ths)]]⟩, some ⟨3, 1, ints out⟩]) s.ths.length ⟨_, _, Ghost.trunc [3, 23, 24, 25] 2 (Nat.zero_le _) ?_ ?_, 0, _, rfl, by omega, rfl, ?_, ?_, ?_, ?_, ?_⟩ ?_
  · simp (config := { decide := true }) only [go_sem, Nat.reduceBEq, reduceIte]
  · simp (config := { decide := true }) only [go_sem, Nat.reduceBEq, reduceIte]
  · simp (config := { decide := true }) only [go_sem, Nat.reduceBEq, reduceIte]
    simp; omega
  · simp (config := { decide := true }) only [go_sem, Nat.reduceBEq, reduceIte]
  · simp (config := { decide := true }) only [go_sem, Nat.reduceBEq, reduceIte]
  · simp (config := { decide := true }) only [go_sem, Nat.reduceBEq, reduceIte]
    rfl
  · simp (config := { decide := true }) only [go_sem, Nat.reduceBEq, reduceIte]
    simp [ints, irow]
  rintro k T H ⟨i, out, rfl, hi, ho, h3, h23, h24, h25, rfl⟩
  refine HW.run 200 (by kernel_rfl) ?_
  by_cases hlt : i < s.ths.length
  · have hlt' : ((i : Int) < (s.ths.length : Int)) = True := by rw [int_ltE]; simp [hlt]
    have hx : s.ths[i]? = some s.ths[i] := List.getElem?_eq_getElem hlt
    obtain ⟨b3, b4⟩ := hs.t _ (List.getElem_mem hlt)
    have hfl := flatT_len (l := s.ths.take i) fun t ht => hs.t t (List.mem_of_mem_take ht)
    rw [List.length_take] at hfl
    generalize s.ths[i] = x at hx b3 b4
    have b5 : out.length ≤ 2000000000 := by rw [ho]; simp only [List.length_append, List.length_cons, List.length_nil]; omega
    obtain ⟨q, hq⟩ : ∃ q : Int, q = if x.eq = true then 1 else 0 := ⟨_, rfl⟩
    have hnx : numsT x = [x.pc, q, (x.regs.length : Int)] ++ x.regs ++ [(x.buf.length : Int)] ++ flatW x.buf := by rw [hq]; rfl
    have hon : out ++ numsT x = [(s.mem.length : Int)] ++ s.mem ++ [(s.ths.length : Int)] ++ (s.ths.take (i + 1)).flatMap numsT := by rw [ho, flatMap_snoc hx]; simp
    cases he : x.eq
    all_goals
      rw [he] at hq
      simp only [if_true, Bool.false_eq_true, if_false] at hq
      simp (config := { decide := true }) only [go_sem, Int.reduceToNat, Nat.reduceAdd, Nat.reduceSub, Nat.reduceMul, Nat.reduceBEq, reduceIte, reduceCtorEq, h3, h23, h24, h25, hlt', hx, he]
      refine ⟨⟨by omega, by omega⟩, ⟨by omega, by omega⟩, ⟨by omega, by omega⟩, ?_⟩
      refine HW.loopG (fun k T H => ∃ (j : Nat) (o2 : List Int), k = x.buf.length - j ∧ j ≤ x.buf.length ∧ o2 = out ++ ([x.pc, q, (x.regs.length : Int)] ++ x.regs ++ [(x.buf.length : Int)] ++ flatW (x.buf.take j)) ∧ T 3 = .hd 1 0 o2.length ∧ T 23 = .sl (thds s.ths) ∧ T 24 = .v (.int .i64 s.ths.length) ∧ T 25 = .v (.int .i64 i) ∧
        T 51 = .sl (wrts x.buf) ∧ T 52 = .v (.int .i64 x.buf.length) ∧ T 53 = .v (.int .i64 j) ∧
        H = [some ⟨25, 2, [[.sl (ints s.mem), .sl (thds s.ths)]]⟩, some ⟨3, 1, ints o2⟩]) x.buf.length ⟨_, _, Ghost.trunc [3, 23, 24, 25, 51, 52, 53] 2 (Nat.zero_le _) ?_ ?_, 0, _, rfl, by omega, rfl, ?_, ?_, ?_, ?_, ?_, ?_, ?_, ?_⟩ ?_
      · simp (config := { decide := true }) only [go_sem, Nat.reduceBEq, reduceIte, h3, h23, h24, h25]
      · simp (config := { decide := true }) only [go_sem, Nat.reduceBEq, reduceIte, nmR_append]
      · simp (config := { decide := true }) only [go_sem, Nat.reduceBEq, reduceIte]
        simp [flatW]; try omega
      · simp (config := { decide := true }) only [go_sem, Nat.reduceBEq, reduceIte, h23]
      · simp (config := { decide := true }) only [go_sem, Nat.reduceBEq, reduceIte, h24]
      · simp (config := { decide := true }) only [go_sem, Nat.reduceBEq, reduceIte, h25]
      · simp (config := { decide := true }) only [go_sem, Nat.reduceBEq, reduceIte]
      · simp (config := { decide := true }) only [go_sem, Nat.reduceBEq, reduceIte]
      · simp (config := { decide := true }) only [go_sem, Nat.reduceBEq, reduceIte]
        rfl
      · simp (config := { decide := true }) only [go_sem, Nat.reduceBEq, reduceIte]
        simp [ints, irow, hq, flatW]
      rintro k T H ⟨j, o2, rfl, hj, ho2, h3, h23, h24, h25, h51, h52, h53, rfl⟩
      refine HW.run 200 (by kernel_rfl) ?_
      by_cases hjl : j < x.buf.length
      · have hjl' : ((j : Int) < (x.buf.length : Int)) = True := by rw [int_ltE]; simp [hjl]
        have hy : x.buf[j]? = some x.buf[j] := List.getElem?_eq_getElem hjl
        have b6 : o2.length ≤ 2001000000 := by
          rw [ho2]
          simp only [List.length_append, List.length_cons, List.length_nil, flatW_len, List.length_take]
          omega
        generalize x.buf[j] = y at hy
        simp (config := { decide := true }) only [go_sem, Int.reduceToNat, Nat.reduceAdd, Nat.reduceSub, Nat.reduceMul, Nat.reduceBEq, reduceIte, reduceCtorEq, h3, h23, h24, h25, h51, h52, h53, hjl', hy]
        refine ⟨⟨by omega, by omega⟩, ?_⟩
        refine ⟨_, _, Ghost.trunc [3, 23, 24, 25, 51, 52, 53] 2 (Nat.zero_le _) ?_ ?_, x.buf.length - (j + 1), by omega, j + 1, o2 ++ [y.1, y.2], rfl, by omega, ?_, ?_, ?_, ?_, ?_, ?_, ?_, ?_, ?_⟩
        · simp (config := { decide := true }) only [go_sem, Nat.reduceBEq, reduceIte, h3, h23, h24, h25, h51, h52]
        · simp (config := { decide := true }) only [go_sem, Nat.reduceBEq, reduceIte, nmR_append]
        · rw [ho2, flatW_snoc hy]; simp
        · simp (config := { decide := true }) only [go_sem, Nat.reduceBEq, reduceIte, h3]
          try simp
        · simp (config := { decide := true }) only [go_sem, Nat.reduceBEq, reduceIte, h23]
        · simp (config := { decide := true }) only [go_sem, Nat.reduceBEq, reduceIte, h24]
        · simp (config := { decide := true }) only [go_sem, Nat.reduceBEq, reduceIte, h25]
        · simp (config := { decide := true }) only [go_sem, Nat.reduceBEq, reduceIte, h51]
        · simp (config := { decide := true }) only [go_sem, Nat.reduceBEq, reduceIte, h52]
        · simp (config := { decide := true }) only [go_sem, Nat.reduceBEq, reduceIte, h53]
          rw [w64 (by omega) (by omega)]; rfl
        · simp (config := { decide := true }) only [go_sem, Nat.reduceBEq, reduceIte]
          try simp [ints, irow]
      · have hjl' : ((j : Int) < (x.buf.length : Int)) = False := by rw [int_ltE]; simp [hjl]
        simp (config := { decide := true }) only [go_sem, Int.reduceToNat, Nat.reduceAdd, Nat.reduceSub, Nat.reduceMul, Nat.reduceBEq, reduceIte, reduceCtorEq, h3, h23, h24, h25, h51, h52, h53, hjl']
        have hfin : o2 = out ++ numsT x := by rw [ho2, hnx, List.take_of_length_le (by omega)]
        refine ⟨_, _, Ghost.refl, s.ths.length - (i + 1), by omega, i + 1, o2, rfl, by omega, by rw [hfin, hon]; rfl, ?_, ?_, ?_, ?_, rfl⟩
        · simp (config := { decide := true }) only [go_sem, Nat.reduceBEq, reduceIte, h3]
        · simp (config := { decide := true }) only [go_sem, Nat.reduceBEq, reduceIte, h23]
        · simp (config := { decide := true }) only [go_sem, Nat.reduceBEq, reduceIte, h24]
        · simp (config := { decide := true }) only [go_sem, Nat.reduceBEq, reduceIte, h25]
          rw [w64 (by omega) (by omega)]; rfl
  · have hlt' : ((i : Int) < (s.ths.length : Int)) = False := by rw [int_ltE]; simp [hlt]
    simp (config := { decide := true }) only [go_sem, Int.reduceToNat, Nat.reduceAdd, Nat.reduceSub, Nat.reduceMul, Nat.reduceBEq, reduceIte, reduceCtorEq, h3, h23, h24, h25, hlt']
    rw [ho, List.take_of_length_le (by omega)]
    rfl
end Go.Proofs.YtokigghopmopbaaGreatDoor
namespace Go.Proofs.YtokigghopmopbaaGreatDoor
open Go.RowKit
set_option maxRecDepth 8000
abbrev joinH (b : Nat) : HV := .ic 86 (.fp [[.sl [[.ic globT (.gv b)]]]] 0 0)
def errH : Nat → HV
  | 0 => .v .nilIface
  | 1 => .ic globT (.gv 0)
  | 2 => joinH 0
  | _ => joinH 1
abbrev rdO (l : List Int) (e : Nat) : HObj := ⟨45, 2, [[.sl (ints l), errH e]]⟩
def nextF (l : List Int) (e : Nat) : Int × List Int × Nat :=
  if e = 0 then (match l with | [] => (0, [], 1) | n :: r => (n, r, 0)) else (0, l, e)
theorem errH_zero : errH 0 = .v .nilIface := rfl
theorem nmH_set {m : Nat} {o : HObj} (ho : nmR m o.rows = true) {H : Heap} {r : Nat} (h : nmH m H = true) : nmH m (H.set r (some o)) = true := by
  unfold nmH at h ⊢
  rw [List.all_eq_true] at h ⊢
  intro x hx
  rw [List.take_set] at hx
  rcases List.mem_or_eq_of_mem_set hx with h1 | rfl
  · exact h x h1
  · exact ho
theorem endP_set {H : Heap} {r : Nat} {o : HObj} {Q : HV → Heap → Prop} {x : HV} (hn : nmH H.length H = true) (ho : nmR H.length o.rows = true) (hq : Q x (H.set r (some o))) : endP H.length Q (x, H.set r (some o)) := by
  refine ⟨nmH_set ho hn, ?_⟩
  show Q x ((H.set r (some o)).take H.length)
  rw [List.take_of_length_le (by simp)]
  exact hq
set_option maxHeartbeats 4000000 in
theorem rdNext (H : Heap) (r : Nat) (l : List Int) (e : Nat) (hr : H[r]? = some (some (rdO l e))) (hn : nmH H.length H = true) :
    HCalls Tryz.prog 17 H [.pt r 1 0 0] (fun x H' => x = .v (.int .i64 (nextF l e).1) ∧ H' = H.set r (some (rdO (nextF l e).2.1 (nextF l e).2.2))) := by
  have hg := getO_iff.2 hr
  have hlt := (List.getElem?_eq_some_iff.1 hr).1
  have hgs : ∀ o, getO (H.set r (some o)) r = some o := fun o => getO_iff.2 (by rw [List.getElem?_set_self hlt])
  refine HCalls_body (fn := Tryz.f17) 41 [2] rfl rfl (by kernel_rfl) (HW.run 200 (by kernel_rfl) ?_)
  by_cases he : e = 0
  · subst he
    rw [rdO, errH_zero] at hg
    cases l with
    | nil =>
      simp (config := { decide := true }) only [go_sem, Int.reduceToNat, Nat.reduceAdd, Nat.reduceSub, Nat.reduceMul, Nat.reduceBEq, reduceIte, reduceCtorEq, hg, hgs, List.length_set]
      exact endP_set hn rfl ⟨rfl, rfl⟩
    | cons n l =>
      have hc : (((l.length + 1 : Nat) : Int) = 0) = False := by simp; omega
      simp (config := { decide := true }) only [go_sem, Int.reduceToNat, Nat.reduceAdd, Nat.reduceSub, Nat.reduceMul, Nat.reduceBEq, reduceIte, reduceCtorEq, hg, hgs, List.length_set, hc]
      refine ⟨by omega, by omega, ?_⟩
      exact endP_set hn rfl ⟨rfl, by rw [Nat.add_sub_cancel, List.take_length]; rfl⟩
  · obtain ⟨t, x, ht⟩ : ∃ t x, errH e = .ic t x := by
      match e, he with
      | 1, _ => exact ⟨_, _, rfl⟩
      | 2, _ => exact ⟨_, _, rfl⟩
      | n + 3, _ => exact ⟨_, _, rfl⟩
    have hx : nextF l e = (0, l, e) := by unfold nextF; rw [if_neg he]
    rw [hx]
    rw [rdO, ht] at hg
    simp (config := { decide := true }) only [go_sem, Int.reduceToNat, Nat.reduceAdd, Nat.reduceSub, Nat.reduceMul, Nat.reduceBEq, reduceIte, reduceCtorEq, hg, hgs, List.length_set]
    refine ⟨hn, rfl, ?_⟩
    rw [List.take_length, set_self hr]
end Go.Proofs.YtokigghopmopbaaGreatDoor
namespace Go.Proofs.YtokigghopmopbaaGreatDoor
open Go.RowKit
section
variable {N L : Nat} {T : Nat → HV} {H : Heap}
theorem Ghost.freezeHd (i n len : Nat) {ob : HObj} (hi : T i = .hd n 0 len) (ho : H[n]? = some (some ob)) (hl : len = ob.rows.length) : Ghost N L T H (upd T i (.sl (fzoR ob.rows))) (H.set n none) := fun B Z G FP ds a w hL hs => by
  have hk := hs.inv.freeze n
  have hG : GLe G (G.set n none) := GLe.kill n
  have hE : Evo Z FP w (Zid Z FP n) (fun j => if j = n then [] else FP j) w := evo_freeze n
  have hs' := hs.evo hk hG hE
  refine ⟨_, _, _, ⟨hs'.inv, hs'.size, fun c hc => ?_, hs'.defers, hs'.dsn, hs'.dsat⟩, GLt.of hL hG, hE⟩
  unfold upd
  split
  · rename_i e
    subst e
    have h0 := hs.tmps c hc
    rw [hi] at h0
    obtain ⟨g, hg, hOB, hV⟩ := hd_at hs.inv ho (by omega) h0
    unfold View at hV
    simp only [RV]
    cases hb : g.blk with
    | none =>
      rw [hb] at hV
      obtain ⟨hy, _, h2⟩ := hV
      have hr : ob.rows = [] := List.length_eq_zero_iff.1 (by omega)
      refine ⟨trivial, none, 0, ?_, ?_, by simp [maxLen], .inl ?_⟩
      · rw [hy, hr]; rfl
      · rw [hr]; exact Nat.le_refl _
      · rw [hr]; rfl
    | some b =>
      rw [hb] at hV
      obtain ⟨ad, hy, ha⟩ := hV
      obtain ⟨b', cells, f, q1, q2, q3, q4, q5, q6, q7⟩ := hOB.cells_ hb
      rw [hb] at q1
      cases q1
      have ha' := ha (.inr rfl)
      refine ⟨trivial, some ad, g.cap, ?_, by rw [fzoR_length]; exact q5, q6, ?_⟩
      · rw [hy, fzoR_length, hl]; rfl
      · right
        refine ⟨b, 0, by rw [ha', Nat.zero_mul], .inr (by rw [q2]; simp), ?_, ?_⟩
        · refine uni_len (sz := ob.sz) fun r hr => ?_
          rw [fzoR_get] at hr
          obtain ⟨r', hr', rfl⟩ := List.mem_map.1 hr
          rw [fzoL_length]; exact hOB.len r' hr'
        · exact fzoR_spec ob.rows G b 0 f ⟨fun b hb => .inl hb, fun b hb => .inr (by rw [q2]; simp [hb])⟩ q7
  · exact hs'.tmps c hc
end
end Go.Proofs.YtokigghopmopbaaGreatDoor
namespace Go.Proofs.YtokigghopmopbaaGreatDoor
open Go.RowKit
set_option maxRecDepth 8000
set_option maxHeartbeats 4000000 in
theorem errJoin (b : Nat) : HFn Tryz.prog 32 [.sl [[.v .nilIface], [.ic globT (.gv b)]]] (joinH b) := by
  refine HCalls_body (fn := Tryz.f32) 47 [2] (by kernel_rfl) rfl (by kernel_rfl) (HW.run 400 (by kernel_rfl) ?_)
  simp (config := { decide := true }) only [go_sem, Int.reduceToNat, Nat.reduceAdd, Nat.reduceSub, Nat.reduceMul, Nat.reduceBEq, reduceIte, reduceCtorEq]
  refine HW.loopG (fun k T H => ∃ i : Nat, k = 2 - i ∧ i ≤ 2 ∧ T 0 = .sl [[.v .nilIface], [.ic globT (.gv b)]] ∧ T 9 = .sl [[.v .nilIface], [.ic globT (.gv b)]] ∧ T 10 = .v (.int .i64 2) ∧ T 11 = .v (.int .i64 i) ∧ T 3 = .v (.int .i64 (if i = 2 then 1 else 0)) ∧ H = []) 2 ⟨_, _, Ghost.refl, 0, rfl, by omega, rfl, rfl, rfl, rfl, rfl, rfl⟩ ?_
  rintro k T H ⟨i, rfl, hi, h0, h9, h10, h11, h3, rfl⟩
  refine HW.run 200 (by kernel_rfl) ?_
  obtain rfl | rfl | rfl : i = 0 ∨ i = 1 ∨ i = 2 := by omega
  · simp (config := { decide := true }) only [go_sem, Int.reduceToNat, Nat.reduceAdd, Nat.reduceSub, Nat.reduceMul, Nat.reduceBEq, reduceIte, reduceCtorEq, h0, h9, h10, h11, h3]
    refine GQ.done ⟨1, by omega, 1, rfl, by omega, ?_, ?_, ?_, ?_, ?_, rfl⟩
    · simp (config := { decide := true }) only [go_sem, Nat.reduceBEq, reduceIte, h0]
    · simp (config := { decide := true }) only [go_sem, Nat.reduceBEq, reduceIte, h9]
    · simp (config := { decide := true }) only [go_sem, Nat.reduceBEq, reduceIte, h10]
    · simp (config := { decide := true }) only [go_sem, Nat.reduceBEq, reduceIte]; rfl
    · simp (config := { decide := true }) only [go_sem, Nat.reduceBEq, reduceIte, h3]
  · simp (config := { decide := true }) only [go_sem, Int.reduceToNat, Nat.reduceAdd, Nat.reduceSub, Nat.reduceMul, Nat.reduceBEq, reduceIte, reduceCtorEq, h0, h9, h10, h11, h3]
    refine GQ.done ⟨0, by omega, 2, rfl, by omega, ?_, ?_, ?_, ?_, ?_, rfl⟩
    · simp (config := { decide := true }) only [go_sem, Nat.reduceBEq, reduceIte, h0]
    · simp (config := { decide := true }) only [go_sem, Nat.reduceBEq, reduceIte, h9]
    · simp (config := { decide := true }) only [go_sem, Nat.reduceBEq, reduceIte, h10]
    · simp (config := { decide := true }) only [go_sem, Nat.reduceBEq, reduceIte]; rfl
    · simp (config := { decide := true }) only [go_sem, Nat.reduceBEq, reduceIte]; rfl
  · simp (config := { decide := true }) only [go_sem, Int.reduceToNat, Nat.reduceAdd, Nat.reduceSub, Nat.reduceMul, Nat.reduceBEq, reduceIte, reduceCtorEq, h0, h9, h10, h11, h3]
    refine HW.loopG (fun k T H => ∃ i : Nat, k = 2 - i ∧ i ≤ 2 ∧ T 26 = .sl [[.v .nilIface], [.ic globT (.gv b)]] ∧ T 27 = .v (.int .i64 2) ∧ T 28 = .v (.int .i64 i) ∧ T 6 = .pt 1 1 0 0 ∧
      H = [some ⟨43, 1, if i = 2 then [[.ic globT (.gv b)]] else []⟩, some ⟨88, 1, [[.hd 0 0 (if i = 2 then 1 else 0)]]⟩]) 2 ⟨_, _, Ghost.refl, 0, rfl, by omega, rfl, rfl, rfl, rfl, rfl⟩ ?_
    rintro k T H ⟨i, rfl, hi, h26, h27, h28, h6, rfl⟩
    obtain rfl | rfl | rfl : i = 0 ∨ i = 1 ∨ i = 2 := by omega
    · refine HW.run 200 (by kernel_rfl) ?_
      simp (config := { decide := true }) only [go_sem, Int.reduceToNat, Nat.reduceAdd, Nat.reduceSub, Nat.reduceMul, Nat.reduceBEq, reduceIte, reduceCtorEq, h26, h27, h28, h6]
      refine GQ.done ⟨1, by omega, 1, rfl, by omega, ?_, ?_, ?_, ?_, rfl⟩
      · simp (config := { decide := true }) only [go_sem, Nat.reduceBEq, reduceIte, h26]
      · simp (config := { decide := true }) only [go_sem, Nat.reduceBEq, reduceIte, h27]
      · simp (config := { decide := true }) only [go_sem, Nat.reduceBEq, reduceIte]; rfl
      · simp (config := { decide := true }) only [go_sem, Nat.reduceBEq, reduceIte, h6]
    · refine HW.run 200 (by kernel_rfl) ?_
      simp (config := { decide := true }) only [go_sem, Int.reduceToNat, Nat.reduceAdd, Nat.reduceSub, Nat.reduceMul, Nat.reduceBEq, reduceIte, reduceCtorEq, h26, h27, h28, h6]
      refine GQ.step (Ghost.trunc [6, 26, 27, 28] 2 (Nat.zero_le _) ?_ ?_) (GQ.done ⟨0, by omega, 2, rfl, by omega, ?_, ?_, ?_, ?_, ?_⟩)
      · simp (config := { decide := true }) only [go_sem, Nat.reduceBEq, reduceIte, h26, h27, h6]
      · simp (config := { decide := true }) only [go_sem, Nat.reduceBEq, reduceIte]
      · simp (config := { decide := true }) only [go_sem, Nat.reduceBEq, reduceIte, h26]
      · simp (config := { decide := true }) only [go_sem, Nat.reduceBEq, reduceIte, h27]
      · simp (config := { decide := true }) only [go_sem, Nat.reduceBEq, reduceIte]; rfl
      · simp (config := { decide := true }) only [go_sem, Nat.reduceBEq, reduceIte, h6]
      · simp (config := { decide := true }) only [go_sem, Nat.reduceBEq, reduceIte]
    · refine HW.ghost (Ghost.absorb 1 0 0) ?_
      simp (config := { decide := true }) only [go_sem, Int.reduceToNat, Nat.reduceAdd, Nat.reduceSub, Nat.reduceMul, Nat.reduceBEq, reduceIte, reduceCtorEq, absorb_eq, onOb_some]
      refine HW.ghost (Ghost.freeze 6 1 1 0 0 h6 rfl rfl rfl) ?_
      refine HW.run 200 (by kernel_rfl) ?_
      simp (config := { decide := true }) only [go_sem, Int.reduceToNat, Nat.reduceAdd, Nat.reduceSub, Nat.reduceMul, Nat.reduceBEq, reduceIte, reduceCtorEq, h26, h27, h28, h6, fzoR, fzoL, fzo]
end Go.Proofs.YtokigghopmopbaaGreatDoor
namespace Go.Proofs.YtokigghopmopbaaGreatDoor
open Go.RowKit
set_option maxRecDepth 8000
def truthF (l : List Int) (e : Nat) : Bool × List Int × Nat :=
  let x := nextF l e
  (decide (x.1 = 1), x.2.1, if x.1 ≠ 0 ∧ x.1 ≠ 1 then 3 else x.2.2)
theorem nextF_err {l : List Int} {e : Nat} (h : (nextF l e).1 ≠ 0) : (nextF l e).2.2 = 0 := by
  unfold nextF at h ⊢
  split at h
  · split at h
    · exact absurd rfl h
    · rw [if_pos (by assumption)]
  · exact absurd rfl h
theorem rdO_nm (m : Nat) (l : List Int) (e : Nat) : nmR m (rdO l e).rows = true := by
  show nmR m [[.sl (ints l), errH e]] = true
  match e with
  | 0 => rfl
  | 1 => rfl
  | 2 => rfl
  | n + 3 => rfl
set_option maxHeartbeats 4000000 in
theorem rdTruth (H : Heap) (r : Nat) (l : List Int) (e : Nat) (hr : H[r]? = some (some (rdO l e))) (hn : nmH H.length H = true) :
    HCalls Tryz.prog 33 H [.pt r 1 0 0] (fun x H' => x = .v (.bool (truthF l e).1) ∧ H' = H.set r (some (rdO (truthF l e).2.1 (truthF l e).2.2))) := by
  have hlt := (List.getElem?_eq_some_iff.1 hr).1
  have hgs : ∀ o, getO (H.set r (some o)) r = some o := fun o => getO_iff.2 (by rw [List.getElem?_set_self hlt])
  refine HCalls_body (fn := Tryz.f33) 24 [2] rfl rfl (by kernel_rfl) (HW.run 200 (by kernel_rfl) ?_)
  simp (config := { decide := true }) only [go_sem, Int.reduceToNat, Nat.reduceAdd, Nat.reduceSub, Nat.reduceMul, Nat.reduceBEq, reduceIte, reduceCtorEq]
  refine ⟨_, rdNext H r l e hr hn, ?_⟩
  rintro x H' ⟨rfl, rfl⟩ -
  have he := nextF_err (l := l) (e := e)
  unfold truthF
  generalize nextF l e = q at he
  obtain ⟨n, l2, e2⟩ := q
  simp only at he
  have hm := fun e => rdO_nm H.length l2 e
  by_cases h0 : n = 0
  · have c0 : (n = 0) = True := eq_true h0
    simp (config := { decide := true }) only [go_sem, Int.reduceToNat, Nat.reduceAdd, Nat.reduceSub, Nat.reduceMul, Nat.reduceBEq, reduceIte, reduceCtorEq, c0, hgs, List.length_set]
    exact endP_set hn (hm _) ⟨rfl, by rw [if_neg (by omega)]⟩
  · by_cases h1 : n = 1
    · have c0 : (n = 0) = False := eq_false h0
      have c1 : (n = 1) = True := eq_true h1
      simp (config := { decide := true }) only [go_sem, Int.reduceToNat, Nat.reduceAdd, Nat.reduceSub, Nat.reduceMul, Nat.reduceBEq, reduceIte, reduceCtorEq, c0, c1, hgs, List.length_set]
      exact endP_set hn (hm _) ⟨rfl, by rw [if_neg (by omega)]⟩
    · have c0 : (n = 0) = False := eq_false h0
      have c1 : (n = 1) = False := eq_false h1
      obtain rfl : e2 = 0 := he h0
      simp (config := { decide := true }) only [go_sem, Int.reduceToNat, Nat.reduceAdd, Nat.reduceSub, Nat.reduceMul, Nat.reduceBEq, reduceIte, reduceCtorEq, c0, c1, hgs, List.length_set]
      repeat (with_reducible refine And.intro ?_ ?_; · (with_reducible and_intros) <;> omega)
      refine HW.mixed 80 8 (H.length, 0) [] follows (by kernel_rfl) (by decide) ?_
      simp (config := { decide := true }) only [go_sem, Int.reduceToNat, Nat.reduceAdd, Nat.reduceSub, Nat.reduceMul, Nat.reduceBEq, reduceIte, reduceCtorEq, c0, c1, hgs, List.length_set, errH_zero, hlt]
      refine callN_nm (errJoin 1) rfl rfl ?_
      simp (config := { decide := true }) only [go_sem, Int.reduceToNat, Nat.reduceAdd, Nat.reduceSub, Nat.reduceMul, Nat.reduceBEq, reduceIte, reduceCtorEq, c0, c1, hgs, List.length_set, errH_zero, hlt]
      rw [List.set_set]
      exact endP_set hn (hm 3) ⟨rfl, by rw [if_pos ⟨h0, h1⟩]; rfl⟩
end Go.Proofs.YtokigghopmopbaaGreatDoor
namespace Go.Proofs.YtokigghopmopbaaGreatDoor
open Go.RowKit
set_option maxRecDepth 8000
def writeF (l : List Int) (e : Nat) : (Int × Int) × List Int × Nat :=
  let x := nextF l e
  let y := nextF x.2.1 x.2.2
  ((x.1, y.1), y.2.1, y.2.2)
theorem get_front {α : Type} {A B : List α} {i : Nat} {x : α} (h : A[i]? = some x) : (A ++ B)[i]? = some x := by
  rw [List.getElem?_append_left (List.getElem?_eq_some_iff.1 h).1]; exact h
theorem nmR_up {m m' : Nat} (h : m ≤ m') : ∀ rows : List (List HV), nmR m rows = true → nmR m' rows = true
  | [], _ => rfl
  | r :: rows, hr => by
    simp only [nmR, Bool.and_eq_true] at hr ⊢
    exact ⟨nmL_mono h r hr.1, nmR_up h rows hr.2⟩
theorem nmH_app {A : Heap} {o : HObj} (hn : nmH A.length A = true) (ho : nmR (A.length + 1) o.rows = true) : nmH (A ++ [some o]).length (A ++ [some o]) = true := by
  unfold nmH at hn ⊢
  rw [List.take_length] at hn ⊢
  rw [List.all_eq_true] at hn ⊢
  intro x hx
  rcases List.mem_append.1 hx with h | h
  · have := hn x h
    cases x with
    | none => rfl
    | some ob => exact nmR_up (by simp) _ this
  · obtain rfl := List.mem_singleton.1 h
    simpa using ho
set_option maxHeartbeats 4000000 in
theorem rdWrite (H : Heap) (r : Nat) (l : List Int) (e : Nat) (hr : H[r]? = some (some (rdO l e))) (hn : nmH H.length H = true) :
    HCalls Tryz.prog 35 H [.pt r 1 0 0] (fun x H' => x = .ag [.v (.int .i64 (writeF l e).1.1), .v (.int .i64 (writeF l e).1.2)] ∧ H' = H.set r (some (rdO (writeF l e).2.1 (writeF l e).2.2))) := by
  have hlt := (List.getElem?_eq_some_iff.1 hr).1
  refine HCalls_bodyC (fn := Tryz.f35) 8 [.cell 2 37] (by kernel_rfl) rfl rfl (by kernel_rfl) (HW.run 400 (by kernel_rfl) ?_)
  simp (config := { decide := true }) only [go_sem, Int.reduceToNat, Nat.reduceAdd, Nat.reduceSub, Nat.reduceMul, Nat.reduceBEq, reduceIte, reduceCtorEq, hlt]
  refine ⟨_, rdNext (H ++ [some ⟨37, 2, [[.v (.int .i64 0), .v (.int .i64 0)]]⟩]) r l e (get_front hr) (nmH_app hn rfl), ?_⟩
  rintro x H' ⟨rfl, rfl⟩ -
  rw [List.set_append_left _ _ hlt]
  unfold writeF
  generalize nextF l e = q
  obtain ⟨n, l2, e2⟩ := q
  have hr2 : (H.set r (some (rdO l2 e2)))[r]? = some (some (rdO l2 e2)) := List.getElem?_set_self hlt
  have hn2 : nmH (H.set r (some (rdO l2 e2))).length (H.set r (some (rdO l2 e2))) = true := by rw [List.length_set]; exact nmH_set (rdO_nm _ _ _) hn
  simp (config := { decide := true }) only [go_sem, Int.reduceToNat, Nat.reduceAdd, Nat.reduceSub, Nat.reduceMul, Nat.reduceBEq, reduceIte, reduceCtorEq, hlt]
  refine ⟨_, rdNext (H.set r (some (rdO l2 e2)) ++ [some ⟨37, 2, [[.v (.int .i64 0), .v (.int .i64 0)]]⟩]) r l2 e2 (get_front hr2) (nmH_app hn2 rfl), ?_⟩
  rintro x H' ⟨rfl, rfl⟩ -
  rw [List.set_append_left _ _ (by rw [List.length_set]; exact hlt), List.set_set]
  generalize nextF l2 e2 = q
  obtain ⟨n2, l3, e3⟩ := q
  have hlen : (H.set r (some (rdO l3 e3))).length = H.length := List.length_set
  have hsb : ∀ x y : Option HObj, (H.set r (some (rdO l3 e3)) ++ [x]).set H.length y = H.set r (some (rdO l3 e3)) ++ [y] := fun x y => by rw [List.set_append_right _ _ (by omega), hlen]; simp
  have hn3 : nmH H.length (H.set r (some (rdO l3 e3))) = true := nmH_set (rdO_nm _ _ _) hn
  simp (config := { decide := true }) only [go_sem, Int.reduceToNat, Nat.reduceAdd, Nat.reduceSub, Nat.reduceMul, Nat.reduceBEq, reduceIte, reduceCtorEq, hlt, getO_behind0 hlen, hsb, retL, onR, rv, onR_some]
  refine endP_behind hlen hn3 ?_
  exact ⟨rfl, rfl⟩
end Go.Proofs.YtokigghopmopbaaGreatDoor
namespace Go.Proofs.YtokigghopmopbaaGreatDoor
open Go.RowKit
set_option maxRecDepth 8000
theorem HCalls.shutO {P : Program} {f : FuncId} {H : Heap} {args : List HV} {Q : HV → Heap → Prop} (h : HCalls P f H args Q) : HCalls P f H args (fun r H' => ∃ r0, Q r0 H' ∧ r = fzo r0) := by
  refine ⟨h.1, fun Z G FP w vals hi ha => Calls.mono (h.2 Z G FP w vals hi ha) ?_⟩
  rintro e w' ⟨v, r, H', Z', G', FP', fr, rfl, hQ, hlen, hi', hr, hnd, hfr1, hfr2, hG, hE⟩
  refine ⟨v, fzo r, H', fun b => Z' b ∨ b ∈ fr, G', FP', [], rfl, ⟨r, hQ, rfl⟩, hlen, ?_, ?_, by simp, by simp, by simp, hG, ⟨hE.os, hE.tape, hE.output, hE.size, hE.keep, fun b h => .inl (hE.zle b h), fun b hb => ?_, hE.fnew⟩⟩
  · refine hi'.zmore (fun b hb => .inl hb) (fun b hb => ?_) (fun id b hb hz => ?_)
    · rcases hb with hb | hb
      · exact hi'.zlt b hb
      · exact (hfr1 b hb).2.1
    · rcases hz with hz | hz
      · exact hi'.zfp id b hb hz
      · exact (hfr1 b hz).2.2 id hb
  · exact RV.nil_keep (fun _ _ => rfl) (fun _ h => h) (nil_GLe G') (fzo_spec (Z' := fun b => Z' b ∨ b ∈ fr) r G' v fr ⟨fun b hb => .inl hb, fun b hb => .inr hb⟩ hr)
  · rcases hb with hb | hb
    · exact hE.znew b hb
    · rcases hfr2 b hb with h | h
      · exact .inr (.inl h)
      · exact .inr (.inr h)
theorem take_behind3 {A B : Heap} {m k : Nat} (h : A.length = m) : (A ++ B).take (m + k) = A ++ B.take k := by
  subst h
  rw [List.take_append, List.take_of_length_le (by omega), Nat.add_sub_cancel_left]
theorem nmH_behind {A B : Heap} {m k : Nat} (h : A.length = m) (hA : nmH m A = true) (hB : ((B.take k).all fun o => match o with | some ob => nmR (m + k) ob.rows | none => true) = true) : nmH (m + k) (A ++ B) = true := by
  unfold nmH at hA ⊢
  rw [take_behind3 h, List.all_append, Bool.and_eq_true]
  refine ⟨?_, hB⟩
  rw [List.all_eq_true] at hA ⊢
  intro x hx
  have := hA x (by rw [List.take_of_length_le (by omega)]; exact hx)
  cases x with
  | none => rfl
  | some ob => exact nmR_up (by omega) _ this
def rowG {α : Type} (one : List Int → Nat → α × List Int × Nat) : Nat → List Int → Nat → List α → List α × List Int × Nat
  | 0, l, e, out => (out, l, e)
  | k + 1, l, e, out => if e = 0 then rowG one k (one l e).2.1 (one l e).2.2 (out ++ [(one l e).1]) else (out, l, e)
def manyG {α : Type} (one : List Int → Nat → α × List Int × Nat) (l : List Int) (e : Nat) : List α × List Int × Nat :=
  let x := nextF l e
  rowG one x.1.toNat x.2.1 (if x.1 < 0 ∨ (x.2.1.length : Int) < x.1 then 2 else x.2.2) []
theorem nextF_len {l : List Int} {e : Nat} : (nextF l e).2.1.length ≤ l.length := by
  unfold nextF
  split
  · split <;> simp
  · exact Nat.le_refl _
theorem rowG_bad {α : Type} {one : List Int → Nat → α × List Int × Nat} {k : Nat} {l : List Int} {e : Nat} {out : List α} (h : e ≠ 0) : rowG one k l e out = (out, l, e) := by
  cases k with
  | zero => rfl
  | succ k => rw [rowG, if_neg h]
theorem rowG_len {α : Type} {one : List Int → Nat → α × List Int × Nat} (ho : ∀ l e, (one l e).2.1.length ≤ l.length) : ∀ (k : Nat) (l : List Int) (e : Nat) (out : List α), (rowG one k l e out).2.1.length ≤ l.length
  | 0, l, e, out => Nat.le_refl _
  | k + 1, l, e, out => by
    rw [rowG]
    split
    · exact Nat.le_trans (rowG_len ho k _ _ _) (ho l e)
    · exact Nat.le_refl _
theorem manyG_len {α : Type} {one : List Int → Nat → α × List Int × Nat} (ho : ∀ l e, (one l e).2.1.length ≤ l.length) (l : List Int) (e : Nat) : (manyG one l e).2.1.length ≤ l.length :=
  Nat.le_trans (rowG_len ho _ _ _ _) nextF_len
theorem errH_ic {e : Nat} (he : e ≠ 0) : ∃ t x, errH e = .ic t x := by
  match e, he with
  | 1, _ => exact ⟨_, _, rfl⟩
  | 2, _ => exact ⟨_, _, rfl⟩
  | n + 3, _ => exact ⟨_, _, rfl⟩
theorem writeF_leE (l : List Int) (e : Nat) (h : l.length ≤ 1000000) : (writeF l e).2.1.length ≤ l.length := Nat.le_trans nextF_len nextF_len
theorem nextF_leE (l : List Int) (e : Nat) (h : l.length ≤ 1000000) : (nextF l e).2.1.length ≤ l.length := nextF_len
end Go.Proofs.YtokigghopmopbaaGreatDoor
namespace Go.Proofs.YtokigghopmopbaaGreatDoor
open Go.RowKit
set_option maxRecDepth 8000
set_option maxHeartbeats 8000000 in
theorem rdManyI (H : Heap) (r : Nat) (l : List Int) (e : Nat) (hr : H[r]? = some (some (rdO l e))) (hn : nmH H.length H = true) (hl : l.length ≤ 1000000) :
    HCalls Tryz.prog 16 H [.pt r 1 0 0, .fn (4294967296 + 17) [.pt r 1 0 0]] (fun x H' => x = .sl (ints (manyG nextF l e).1) ∧ H' = H.set r (some (rdO (manyG nextF l e).2.1 (manyG nextF l e).2.2))) := by
  have hlt := (List.getElem?_eq_some_iff.1 hr).1
  have hgs : ∀ o, getO (H.set r (some o)) r = some o := fun o => getO_iff.2 (by rw [List.getElem?_set_self hlt])
  refine HCalls.conv (Q := fun x H' => (∃ r0, (r0 = .ow 3 1 (ints (manyG nextF l e).1) ∨ ((manyG nextF l e).1 = [] ∧ r0 = .v (.slice none 0 0))) ∧ x = fzo r0) ∧ H' = H.set r (some (rdO (manyG nextF l e).2.1 (manyG nextF l e).2.2))) (HCalls.mono (HCalls.shutO (Q := fun x H' => (x = .ow 3 1 (ints (manyG nextF l e).1) ∨ ((manyG nextF l e).1 = [] ∧ x = .v (.slice none 0 0))) ∧ H' = H.set r (some (rdO (manyG nextF l e).2.1 (manyG nextF l e).2.2))) ?_) ?_) ?_
  rotate_left
  · rintro x H' ⟨r0, ⟨h1, h2⟩, rfl⟩
    exact ⟨⟨r0, h1, rfl⟩, h2⟩
  · rintro x H' ⟨⟨r0, rfl | ⟨h, rfl⟩, rfl⟩, rfl⟩
    · exact ⟨_, ⟨rfl, rfl⟩, .inl (by simp only [fzo, ints_fzoR])⟩
    · exact ⟨_, ⟨rfl, rfl⟩, .inr ⟨rfl, by rw [h]; exact Conv.nilSl⟩⟩
  refine HCalls_body (fn := Tryz.f16) 49 [4] rfl rfl (by kernel_rfl) (HW.run 400 (by kernel_rfl) ?_)
  simp (config := { decide := true }) only [go_sem, Int.reduceToNat, Nat.reduceAdd, Nat.reduceSub, Nat.reduceMul, Nat.reduceBEq, reduceIte, reduceCtorEq]
  refine ⟨_, rdNext H r l e hr hn, ?_⟩
  rintro x H' ⟨rfl, rfl⟩ -
  have he := nextF_err (l := l) (e := e)
  have hq := nextF_len (l := l) (e := e)
  unfold manyG
  generalize nextF l e = q at he hq ⊢
  obtain ⟨n, l2, e2⟩ := q
  simp only at he hq
  have hm := fun e => rdO_nm H.length l2 e
  rcases tfE (n < 0) with ⟨d0, c0⟩ | ⟨d0, c0⟩
  · obtain rfl : e2 = 0 := he (by omega)
    simp (config := { decide := true }) only [go_sem, Int.reduceToNat, Nat.reduceAdd, Nat.reduceSub, Nat.reduceMul, Nat.reduceBEq, reduceIte, reduceCtorEq, c0, hgs, List.length_set]
    repeat (with_reducible refine And.intro ?_ ?_; · (with_reducible and_intros) <;> omega)
    refine HW.mixed 80 8 (H.length, 0) [] follows (by kernel_rfl) (by decide) ?_
    simp (config := { decide := true }) only [go_sem, Int.reduceToNat, Nat.reduceAdd, Nat.reduceSub, Nat.reduceMul, Nat.reduceBEq, reduceIte, reduceCtorEq, c0, hgs, List.length_set, errH_zero, hlt]
    refine callN_nm (errJoin 0) rfl rfl ?_
    simp (config := { decide := true }) only [go_sem, Int.reduceToNat, Nat.reduceAdd, Nat.reduceSub, Nat.reduceMul, Nat.reduceBEq, reduceIte, reduceCtorEq, c0, hgs, List.length_set, errH_zero, hlt]
    refine HW.loopG (fun k T H' => T 7 = .v (.int .i64 0) ∧ T 5 = .v (.int .i64 n) ∧ T 0 = .pt r 1 0 0 ∧ T 6 = .v (.slice none 0 0) ∧ H' = H.set r (some (rdO l2 2))) 0 ⟨_, _, Ghost.refl, rfl, rfl, rfl, rfl, by rw [List.set_set]; rfl⟩ ?_
    rintro k T H' ⟨h7, h5, h0, h6, rfl⟩
    refine HW.run 400 (by kernel_rfl) ?_
    have c1 : ((0 : Int) < n) = False := eq_false (by omega)
    simp (config := { decide := true }) only [go_sem, Int.reduceToNat, Nat.reduceAdd, Nat.reduceSub, Nat.reduceMul, Nat.reduceBEq, reduceIte, reduceCtorEq, h7, h5, h0, h6, c1, hgs, List.length_set, hlt]
    have hz2 : rowG nextF n.toNat l2 (if True ∨ (l2.length : Int) < n then 2 else 0) [] = ([], l2, 2) := by rw [if_pos (.inl trivial), rowG_bad (by decide)]
    rw [hz2]
    exact endP_set hn (hm 2) ⟨.inr ⟨rfl, rfl⟩, rfl⟩
  · rcases tfE ((l2.length : Int) < n) with ⟨d1, c1⟩ | ⟨d1, c1⟩
    · obtain rfl : e2 = 0 := he (by omega)
      simp (config := { decide := true }) only [go_sem, Int.reduceToNat, Nat.reduceAdd, Nat.reduceSub, Nat.reduceMul, Nat.reduceBEq, reduceIte, reduceCtorEq, c0, c1, hgs, List.length_set]
      repeat (with_reducible refine And.intro ?_ ?_; · (with_reducible and_intros) <;> omega)
      refine HW.mixed 80 8 (H.length, 0) [] follows (by kernel_rfl) (by decide) ?_
      simp (config := { decide := true }) only [go_sem, Int.reduceToNat, Nat.reduceAdd, Nat.reduceSub, Nat.reduceMul, Nat.reduceBEq, reduceIte, reduceCtorEq, c0, hgs, List.length_set, errH_zero, hlt]
      refine callN_nm (errJoin 0) rfl rfl ?_
      simp (config := { decide := true }) only [go_sem, Int.reduceToNat, Nat.reduceAdd, Nat.reduceSub, Nat.reduceMul, Nat.reduceBEq, reduceIte, reduceCtorEq, c0, hgs, List.length_set, errH_zero, hlt]
      refine HW.loopG (fun k T H' => T 7 = .v (.int .i64 0) ∧ T 5 = .v (.int .i64 n) ∧ T 0 = .pt r 1 0 0 ∧ T 6 = .v (.slice none 0 0) ∧ H' = H.set r (some (rdO l2 2))) 0 ⟨_, _, Ghost.refl, rfl, rfl, rfl, rfl, by rw [List.set_set]; rfl⟩ ?_
      rintro k T H' ⟨h7, h5, h0, h6, rfl⟩
      refine HW.run 400 (by kernel_rfl) ?_
      have c2 : ((0 : Int) < n) = True := eq_true (by omega)
      have hg2 : getO (H.set r (some (rdO l2 2))) r = some ⟨45, 2, [[.sl (ints l2), joinH 0]]⟩ := hgs _
      simp (config := { decide := true }) only [go_sem, Int.reduceToNat, Nat.reduceAdd, Nat.reduceSub, Nat.reduceMul, Nat.reduceBEq, reduceIte, reduceCtorEq, h7, h5, h0, h6, c2, hg2, List.length_set, hlt]
      rw [rowG_bad (by decide)]
      exact endP_set hn (hm 2) ⟨.inr ⟨rfl, rfl⟩, rfl⟩
    · simp (config := { decide := true }) only [go_sem, Int.reduceToNat, Nat.reduceAdd, Nat.reduceSub, Nat.reduceMul, Nat.reduceBEq, reduceIte, reduceCtorEq, c0, c1, hgs, List.length_set]
      refine HW.loopG (fun k T H' => ∃ (i : Nat) (l3 : List Int) (e3 : Nat) (out : List Int), k = n.toNat - i ∧ i ≤ n.toNat ∧ out.length ≤ i ∧ l3.length ≤ l2.length ∧ rowG nextF n.toNat l2 e2 [] = rowG nextF (n.toNat - i) l3 e3 out ∧ T 0 = .pt r 1 0 0 ∧ T 1 = .fn (4294967296 + 17) [.pt r 1 0 0] ∧ T 5 = .v (.int .i64 n) ∧ T 6 = .hd H.length 0 out.length ∧ T 7 = .v (.int .i64 i) ∧
        H' = H.set r (some (rdO l3 e3)) ++ [some ⟨3, 1, ints out⟩]) n.toNat ⟨_, _, Ghost.nil 6 3 1 rfl, 0, l2, e2, [], rfl, by omega, by simp, Nat.le_refl _, rfl, rfl, rfl, rfl, ?_, rfl, rfl⟩ ?_
      · simp (config := { decide := true }) only [go_sem, Nat.reduceBEq, reduceIte, List.length_set]
      rintro k T H' ⟨i, l3, e3, out, rfl, hi, hout, hl3, hrow, h0, h1, h5, h6, h7, rfl⟩
      refine HW.run 400 (by kernel_rfl) ?_
      have hlen : ∀ o, (H.set r o).length = H.length := fun o => List.length_set
      have hgf : ∀ o B, getO (H.set r (some o) ++ B) r = some o := fun o B => getO_iff.2 (get_front (List.getElem?_set_self hlt))
      have hnr : ∀ e l, nmH H.length (H.set r (some (rdO l e))) = true := fun e l => nmH_set (rdO_nm _ _ _) hn
      have g0 : ∀ o (B : Heap), getO (H.set r o ++ B) H.length = getO B 0 := fun o B => getO_behind0 (hlen o)
      have g1 : ∀ o (j : Nat) (B : Heap), getO (H.set r o ++ B) (H.length + j) = getO B j := fun o j B => getO_behind (hlen o)
      have s0 : ∀ o (B : Heap) x, (H.set r o ++ B).set H.length x = H.set r o ++ B.set 0 x := fun o B x => set_behind0 (hlen o)
      have hat : ∀ o x, (H.set r o ++ [x])[H.length]? = some x := fun o x => by rw [List.getElem?_append_right (by rw [hlen]; exact Nat.le_refl _), hlen, Nat.sub_self]; rfl
      have hzz : (H.length < H.length) = False := eq_false (Nat.lt_irrefl _)
      have s1 : ∀ o (j : Nat) (B : Heap) x, (H.set r o ++ B).set (H.length + j) x = H.set r o ++ B.set j x := fun o j B x => set_behind (hlen o)
      by_cases hlt2 : (i : Int) < n
      · have c2 : ((i : Int) < n) = True := eq_true hlt2
        by_cases h30 : e3 = 0
        · subst h30
          simp (config := { decide := true }) only [go_sem, Int.reduceToNat, Nat.reduceAdd, Nat.reduceSub, Nat.reduceMul, Nat.reduceBEq, reduceIte, reduceCtorEq, h0, h1, h5, h6, h7, c2, hgf, List.length_set, hlt, errH_zero]
          refine ⟨_, rdNext (H.set r (some (rdO l3 0)) ++ [some ⟨3, 1, ints out⟩]) r l3 0 (get_front (List.getElem?_set_self hlt)) (nmH_app (by rw [hlen]; exact hnr 0 l3) ints_nmR), ?_⟩
          rintro x H' ⟨rfl, rfl⟩ -
          rw [List.set_append_left _ _ (by rw [List.length_set]; exact hlt), List.set_set]
          have hlo := nextF_leE l3 0 (by omega)
          have hro : rowG nextF (n.toNat - i) l3 0 out = rowG nextF (n.toNat - (i + 1)) (nextF l3 0).2.1 (nextF l3 0).2.2 (out ++ [(nextF l3 0).1]) := by
            rw [show n.toNat - i = (n.toNat - (i + 1)) + 1 by omega, rowG, if_pos rfl]
          rw [hro] at hrow
          generalize nextF l3 0 = q at hlo hrow
          obtain ⟨v, l4, e4⟩ := q
          simp only at hlo hrow
          simp (config := { decide := true }) only [go_sem, Int.reduceToNat, Nat.reduceAdd, Nat.reduceSub, Nat.reduceMul, Nat.reduceBEq, reduceIte, reduceCtorEq, h0, h1, h5, h6, h7, hgf, hlen, hlt, g0, g1, s0, s1, List.append_assoc, List.length_append]
          refine ⟨⟨by omega, by omega⟩, ?_⟩
          have t1 : ∀ o (B : Heap), (H.set r o ++ B).take (H.length + 1) = H.set r o ++ B.take 1 := fun o B => take_behind3 (hlen o)
          refine ⟨_, _, Ghost.trunc [0, 1, 5, 6, 7] (H.length + 1) (by omega) ?_ (nmH_behind (hlen _) (hnr _ _) ?_), n.toNat - (i + 1), by omega, i + 1, l4, e4, out ++ [v], rfl, by omega, by simp; omega, by omega, hrow, ?_, ?_, ?_, ?_, ?_, ?_⟩
          · simp (config := { decide := true }) only [go_sem, Nat.reduceBEq, reduceIte, h0, h1, h5, List.all_cons, List.all_nil]
            simp [nm, nmL]; omega
          · simp (config := { decide := true }) only [go_sem, Nat.reduceBEq, reduceIte, List.set_cons_zero, List.take_succ_cons, List.take_zero, List.all_cons, List.all_nil]
          · simp (config := { decide := true }) only [go_sem, Nat.reduceBEq, reduceIte, h0]
          · simp (config := { decide := true }) only [go_sem, Nat.reduceBEq, reduceIte, h1]
          · simp (config := { decide := true }) only [go_sem, Nat.reduceBEq, reduceIte, h5]
          · simp (config := { decide := true }) only [go_sem, Nat.reduceBEq, reduceIte]
            try simp
          · simp (config := { decide := true }) only [go_sem, Nat.reduceBEq, reduceIte]; rw [w64 (by omega) (by omega)]; rfl
          · rw [t1]; rfl
        · obtain ⟨t, x, ht⟩ := errH_ic h30
          have hg3 : ∀ B, getO (H.set r (some (rdO l3 e3)) ++ B) r = some ⟨45, 2, [[.sl (ints l3), .ic t x]]⟩ := fun B => by rw [← ht]; exact hgf _ B
          simp (config := { decide := true }) only [go_sem, Int.reduceToNat, Nat.reduceAdd, Nat.reduceSub, Nat.reduceMul, Nat.reduceBEq, reduceIte, reduceCtorEq, h0, h1, h5, h6, h7, c2, hg3, List.length_set, hlt, g0, hat, hzz, s0]
          rw [rowG_bad h30] at hrow
          rw [hrow]
          refine endP_behind (hlen _) (hnr _ _) ?_
          exact ⟨.inl rfl, rfl⟩
      · have c2 : ((i : Int) < n) = False := eq_false hlt2
        simp (config := { decide := true }) only [go_sem, Int.reduceToNat, Nat.reduceAdd, Nat.reduceSub, Nat.reduceMul, Nat.reduceBEq, reduceIte, reduceCtorEq, h0, h1, h5, h6, h7, c2, hgf, List.length_set, hlt, g0, hat, hzz, s0]
        have hni : n.toNat - i = 0 := by omega
        rw [hni] at hrow
        rw [hrow, rowG]
        refine endP_behind (hlen _) (hnr _ _) ?_
        exact ⟨.inl rfl, rfl⟩
end Go.Proofs.YtokigghopmopbaaGreatDoor
