/- Part G of the engine: what each operation that only reckons, reads, or writes a cell asks and gives. -/
import Derived.Test.YtcpefnjofekibaaDoorHiF
namespace Go.Proofs.YtcpefnjofekibaaDoor
open Go.RowKit
set_option linter.unusedVariables false
set_option linter.unusedSimpArgs false

abbrev KT := HV → Heap → Prop

/-- A value out of the cells of its type. -/
def mkV (x : TI) (seg : List HV) : HV := if x.agg then .ag seg else seg.headD .any
def okTI (x : TI) : Bool := x.agg || x.size == 1

def hloadP (x : TI) (H : Heap) (a : HV) (K : KT) : Prop :=
  match a with
  | .pt id n r o =>
    match H[id]? with
    | some (some ob) =>
      match ob.rows[r]? with
      | some row => n = ob.rows.length ∧ o + x.size ≤ ob.sz ∧ tvs ((row.drop o).take x.size) = true ∧ K (mkV x ((row.drop o).take x.size)) H
      | none => False
    | _ => False
  | .fp rows i o =>
    match rows[i]? with
    | some row => o + x.size ≤ row.length ∧ tvs ((row.drop o).take x.size) = true ∧ K (mkV x ((row.drop o).take x.size)) H
    | none => False
  | _ => False

/-- Does what is loaded hold something owned? -/
def closedAt (x : TI) (H : Heap) (a : HV) : Bool :=
  match a with
  | .pt id n r o =>
    match H[id]? with
    | some (some ob) =>
      match ob.rows[r]? with
      | some row => tvs ((row.drop o).take x.size)
      | none => true
    | _ => true
  | _ => true

def openAt (x : TI) (H : Heap) (a : HV) : Heap :=
  match a with
  | .pt id n r o => gopens H id r o x.size
  | _ => H

def hload (P : Program) (H : Heap) (t : TypeId) (a : HV) (K : KT) : Prop :=
  match ti P t with
  | some x => okTI x = true ∧ (if closedAt x H a = true then hloadP x H a K else hloadP x (openAt x H a) a K)
  | none => False

def hstore (P : Program) (H : Heap) (t : TypeId) (a v : HV) (K : KT) : Prop :=
  match ti P t with
  | some x =>
    match a with
    | .pt id n r o =>
      match H[id]? with
      | some (some ob) =>
        match ob.rows[r]? with
        | some row => n = ob.rows.length ∧ (cellsH v).length = x.size ∧ (cellsH v).all c1 = true ∧ o + x.size ≤ ob.sz ∧
            K .any (H.set id (some { ob with rows := ob.rows.set r (row.take o ++ cellsH v ++ row.drop (o + x.size)) }))
        | none => False
      | _ => False
    | _ => False
  | none => False

section
variable {P : Program} {N : Nat} {T : Nat → HV} {H : Heap} {K : KT} {Z : Nat → Prop} {G : List (Option OG)} {FP : Nat → List Nat} {w : World}

theorem mkV_RV {x : TI} {seg : List HV} {ys : List Value} (hk : okTI x = true) (hl : ys.length = x.size) (h : RL Z G w seg ys []) : RV Z G w (mkV x seg) (if x.agg then .agg ys.toArray else ys.headD undef) [] := by
  unfold mkV
  cases hg : x.agg with
  | true => simp only [if_true, RV]; exact ⟨ys.toArray, rfl, by simpa using h⟩
  | false =>
    simp only [okTI, hg, Bool.false_or, beq_iff_eq] at hk
    simp only [Bool.false_eq_true, if_false]
    rw [hk] at hl
    match ys, hl with
    | [y], _ =>
      have hs := RL_length _ _ _ h
      match seg, hs with
      | [s], _ =>
        simp only [RL] at h
        obtain ⟨y', ys', f1, f2, he, hf, h1, h2, h3⟩ := h
        simp only [List.cons.injEq] at he
        obtain ⟨rfl, _⟩ := he
        have : f1 = [] := (List.append_eq_nil_iff.1 hf.symm).1
        subst this
        simpa using h1

theorem okTI_one {x : TI} (hk : okTI x = true) (hg : x.agg = false) : x.size = 1 := by
  simpa [okTI, hg] using hk

theorem hloadP_run {t : TypeId} {x : TI} (hx : ti P t = some x) (hk : okTI x = true) (hi : HInv Z G FP H w) {a : HV} {y : Value} (hv : RV Z G w a y []) (h : hloadP x H a K) :
    ∃ v h', (Instr.loadAt t y).run P w = .ok v w ∧ K h' H ∧ RV Z G w h' v [] := by
  unfold hloadP at h
  split at h
  · rename_i id n r o
    split at h
    · rename_i ob ho
      split at h
      · rename_i row hr
        obtain ⟨hn, hsz, htv, hK⟩ := h
        obtain ⟨g, b, cells, f, hg, hob, hb, hf, hh, hc, hcap, hml, hrr, rfl, hrl⟩ := pt_at hi ho hn hr hv
        obtain ⟨f', hrc, _⟩ := RR_row _ _ _ hrr hob.len r row hr
        rw [Nat.zero_add] at hrc
        obtain ⟨ys, h1, h2, h3, h4⟩ := row_seg hrc o x.size (by omega) htv
        have hrun := run_loadVar_at (P := P) (w := w) hx h1 (okTI_one hk) h3
        refine ⟨_, _, ?_, hK, mkV_RV hk h1 h2⟩
        unfold Instr.loadAt Instr.sureAddr
        simp only [Sem.run_bind, Sem.run_pure, Result.andThen_ok]
        exact hrun
      · exact h.elim
    · exact h.elim
  · rename_i rows i o
    split at h
    · rename_i row hr
      obtain ⟨hsz, htv, hK⟩ := h
      simp only [RV] at hv
      obtain ⟨_, b, k, rfl, hz, hu, hrr⟩ := hv
      obtain ⟨f', hrc, hsub⟩ := RR_row _ _ _ hrr hu i row hr
      obtain ⟨ys, h1, h2, h3, h4⟩ := row_seg hrc o x.size hsz htv
      have h2' : RL Z G w ((row.drop o).take x.size) ys [] := RL.keep (fun _ _ => rfl) (fun _ h => h) (nil_GLe _) _ _ _ (fun _ _ => rfl) h2
      have hrun := run_loadVar_at (P := P) (w := w) hx h1 (okTI_one hk) h3
      refine ⟨_, _, ?_, hK, mkV_RV hk h1 h2'⟩
      unfold Instr.loadAt Instr.sureAddr
      simp only [Sem.run_bind, Sem.run_pure, Result.andThen_ok]
      exact hrun
    · exact h.elim
  · exact h.elim

theorem opds_mem {o : Oper} (hok : operOk N o = true) {x : Operand} (hx : x ∈ o.op.operands.toList) : opdOk N x = true := by
  simp only [operOk, Bool.and_eq_true] at hok
  have := Array.all_eq_true_iff_forall_mem.1 hok.2 x (by simpa using hx)
  exact this

theorem HR_load {o : Oper} {t : TypeId} {a : Operand} (ho : o.op = .load t a) (hok : operOk N o = true) (h : hload P H t (hev T a) K) : HR P N o T H K := by
  intro B Z G FP ds act w hs
  have ha := hs.hev a (opds_mem hok (by simp [ho, Op.operands]))
  unfold hload at h
  split at h
  · rename_i x hx
    obtain ⟨hk, h⟩ := h
    split at h
    · obtain ⟨v, h', h1, h2, h3⟩ := hloadP_run hx hk hs.inv ha h
      refine ⟨.value v, v, w, h', H, Z, G, FP, ?_, .inl rfl, h2, h3, hs.inv, GLe.refl _, Evo.refl _ _ _⟩
      simp only [execOp, ho, Sem.run_bind, h1, Result.andThen_ok, Sem.run_pure]
    · have : ∃ G' FP', HInv Z G' FP' (openAt x H (hev T a)) w ∧ GLe G G' ∧ Evo Z FP w Z FP' w := by
        unfold openAt
        split
        · exact gopens_inv _ _ _ _ _ hs.inv
        · exact ⟨G, FP, hs.inv, GLe.refl _, Evo.refl _ _ _⟩
      obtain ⟨G', FP', hi', hG, hE⟩ := this
      have ha' := RV.nil_keep (w' := w) (fun _ _ => rfl) (fun _ h => h) hG ha
      obtain ⟨v, h', h1, h2, h3⟩ := hloadP_run hx hk hi' ha' h
      refine ⟨.value v, v, w, h', _, Z, G', FP', ?_, .inl rfl, h2, h3, hi', hG, hE⟩
      simp only [execOp, ho, Sem.run_bind, h1, Result.andThen_ok, Sem.run_pure]
  · exact h.elim

/-- Cells of an object are written. -/
theorem HR_store {o : Oper} {t : TypeId} {a v : Operand} (ho : o.op = .store t a v) (hok : operOk N o = true) (h : hstore P H t (hev T a) (hev T v) K) : HR P N o T H K := by
  intro B Z G FP ds act w hs
  have ha := hs.hev a (opds_mem hok (by simp [ho, Op.operands]))
  have hv := hs.hev v (opds_mem hok (by simp [ho, Op.operands]))
  unfold hstore at h
  split at h
  · rename_i x hx
    split at h
    · rename_i id n r off he
      rw [he] at ha
      split at h
      · rename_i ob hob
        split at h
        · rename_i row hr
          obtain ⟨hn, hlen, hc1, hsz, hK⟩ := h
          obtain ⟨g, b, cells, f, hg, hOB, hb, hf, hh, hc, hcap, hml, hrr, hy, hrl⟩ := pt_at hs.inv hob hn hr ha
          obtain ⟨hvs, hv1⟩ := cellsH_spec hc1 hv
          have hvl := RL_length _ _ _ hvs
          have hrlt := (List.getElem?_eq_some_iff.1 hr).1
          have hfl : ob.rows.flatten.length = ob.rows.length * ob.sz := flat_len _ hOB.len
          have hpos : r * ob.sz + off + x.size ≤ ob.rows.length * ob.sz := by
            have h1 : (r + 1) * ob.sz ≤ ob.rows.length * ob.sz := Nat.mul_le_mul_right _ hrlt
            rw [Nat.add_mul] at h1
            omega
          have hcs : ob.rows.length * ob.sz ≤ cells.size := by rw [hc]; exact Nat.mul_le_mul_right _ hcap
          have hcl : (act.eval v).cells.size = x.size := by rw [← Array.length_toList, hvl, hlen]
          have hrun := run_storeVar_at (P := P) hx hh hcl hv1 (show r * ob.sz + off + x.size ≤ cells.size by omega)
          obtain ⟨k1, k2, k3⟩ := (RR_iff hh ob.rows 0 f (Nat.zero_le _)).1 hrr
          simp only [List.drop_zero, Nat.zero_add] at k1 k2 k3
          obtain ⟨fA, fB, hfAB, hA, hB⟩ := RL_split _ _ _ (r * ob.sz + off) k2
          obtain ⟨fS, fC, hfSC, hS, hC⟩ := RL_split _ _ _ x.size hB
          have hflat : (ob.rows.set r (row.take off ++ cellsH (hev T v) ++ row.drop (off + x.size))).flatten = ob.rows.flatten.take (r * ob.sz + off) ++ cellsH (hev T v) ++ ob.rows.flatten.drop (r * ob.sz + off + x.size) := by
            rw [← hlen]; exact flat_set ob.rows r row _ off hOB.len hr (by omega)
          have hcell' : (cells.toList.take (r * ob.sz + off) ++ (act.eval v).cells.toList ++ cells.toList.drop (r * ob.sz + off + (act.eval v).cells.toList.length)).length = cells.size := by
            simp only [List.length_append, List.length_take, List.length_drop, Array.length_toList, hcl]; omega
          refine ⟨.skip, undef, w.setRow b (cells.toList.take (r * ob.sz + off) ++ (act.eval v).cells.toList ++ cells.toList.drop (r * ob.sz + off + (act.eval v).cells.toList.length)).toArray, .any, _, Z, G, fun j => if j = id then b :: (fA ++ fC) else FP j, ?_, .inr ⟨rfl, rfl⟩, hK, by simp [RV], ?_, GLe.refl _, ?_⟩
          · simp only [execOp, ho, Instr.storeAt, hy, Instr.sureAddr, Sem.run_bind, Sem.run_pure, Result.andThen_ok, hrun]
          · have hnd := hs.inv.nodup id
            rw [hf, hfAB, hfSC] at hnd
            have hsub : (b :: (fA ++ fC)).Sublist (b :: (fA ++ (fS ++ fC))) := List.Sublist.cons_cons b (List.Sublist.append (List.Sublist.refl _) (List.sublist_append_right _ _))
            have hin : ∀ z ∈ b :: (fA ++ fC), z ∈ FP id := fun z hz => by rw [hf, hfAB, hfSC]; exact hsub.subset hz
            have := hs.inv.turn (w' := w.setRow b (cells.toList.take (r * ob.sz + off) ++ (act.eval v).cells.toList ++ cells.toList.drop (r * ob.sz + off + (act.eval v).cells.toList.length)).toArray) (g' := g)
              (o' := { ob with rows := ob.rows.set r (row.take off ++ cellsH (hev T v) ++ row.drop (off + x.size)) }) (fp' := b :: (fA ++ fC)) hob hg (.inl rfl) (by simp)
              (fun q hq hqf => setRow_other w b q _ (fun e => hqf (by rw [hf, e]; simp))) ?_ (hnd.sublist hsub)
              (fun z hz => ⟨hs.inv.zfp id z (hin z hz), by simpa using hs.inv.flt id z (hin z hz), fun j hj hc => hj (hs.inv.disj j id z hc (hin z hz))⟩)
            · rwa [set_self hg] at this
            · rw [set_self hg]
              have hh' := setRow_heap w b cells (cells.toList.take (r * ob.sz + off) ++ (act.eval v).cells.toList ++ cells.toList.drop (r * ob.sz + off + (act.eval v).cells.toList.length)).toArray ob.e (0, 0) hh
              have hkeep : ∀ z, z ≠ b → (w.setRow b (cells.toList.take (r * ob.sz + off) ++ (act.eval v).cells.toList ++ cells.toList.drop (r * ob.sz + off + (act.eval v).cells.toList.length)).toArray).heap[z]? = w.heap[z]? := fun z hz => setRow_other w b z _ hz
              have hbZ : ∀ z, Z z → z ≠ b := fun z hz e => hs.inv.zfp id b (by rw [hf]; simp) (e ▸ hz)
              have hnd2 : ∀ z ∈ fA ++ fC, z ≠ b := fun z hz e => by
                have := List.nodup_cons.1 (hnd.sublist hsub)
                exact this.1 (e ▸ hz)
              refine ⟨hOB.e, hOB.sz, by rw [hOB.n]; simp, fun q hq => ?_, .inr (.inl ⟨b, _, fA ++ fC, hb, rfl, hh', ?_, by simpa using hcap, hml, ?_⟩)⟩
              · rcases List.mem_or_eq_of_mem_set hq with hq | rfl
                · exact hOB.len q hq
                · simp only [List.length_append, List.length_take, List.length_drop, hlen, hrl]; omega
              · simp only [List.size_toArray]; rw [hcell', hc]
              · refine (RR_iff hh' _ 0 _ (Nat.zero_le _)).2 ?_
                have hl1 : (ob.rows.flatten.take (r * ob.sz + off) ++ cellsH (hev T v) ++ ob.rows.flatten.drop (r * ob.sz + off + x.size)).length = ob.rows.length * ob.sz := by
                  simp only [List.length_append, List.length_take, List.length_drop, hlen, hfl]; omega
                simp only [List.drop_zero, Nat.zero_add, hflat, hl1]
                have hvals : (cells.toList.take (r * ob.sz + off) ++ (act.eval v).cells.toList ++ cells.toList.drop (r * ob.sz + off + (act.eval v).cells.toList.length)).take (ob.rows.length * ob.sz) =
                    (cells.toList.take (ob.rows.length * ob.sz)).take (r * ob.sz + off) ++ (act.eval v).cells.toList ++ ((cells.toList.take (ob.rows.length * ob.sz)).drop (r * ob.sz + off)).drop x.size := by
                  have e1 : (act.eval v).cells.toList.length = x.size := by rw [hvl, hlen]
                  rw [e1, List.append_assoc, List.append_assoc, List.take_append, List.take_append]
                  have e2 : (cells.toList.take (r * ob.sz + off)).length = r * ob.sz + off := by simp; omega
                  rw [e2, e1]
                  congr 1
                  · rw [List.take_take, List.take_take]; congr 1; omega
                  · congr 1
                    · rw [List.take_of_length_le]; rw [e1]; omega
                    · rw [List.drop_drop, List.drop_take]; congr 1; omega
                rw [hfl] at k2 hA hB hC k3
                refine ⟨by simp only [List.size_toArray]; rw [hcell']; omega, ?_, ?_⟩
                · rw [hvals]
                  refine (RL_append _ _ _ _).2 ⟨_, _, fA, fC, rfl, rfl, (RL_append _ _ _ _).2 ⟨_, _, fA, [], rfl, by simp, ?_, ?_⟩, ?_⟩
                  · exact RL.keep (fun z hz => hkeep z (hbZ z hz)) (fun _ h => h) (GLe.refl _) _ _ _ (fun z hz => hkeep z (hnd2 z (List.mem_append_left _ hz))) hA
                  · exact RL.keep (fun z hz => hkeep z (hbZ z hz)) (fun _ h => h) (GLe.refl _) _ _ _ (by simp) hvs
                  · rw [show ob.rows.flatten.drop (r * ob.sz + off + x.size) = (ob.rows.flatten.drop (r * ob.sz + off)).drop x.size by rw [List.drop_drop]]
                    exact RL.keep (fun z hz => hkeep z (hbZ z hz)) (fun _ h => h) (GLe.refl _) _ _ _ (fun z hz => hkeep z (hnd2 z (List.mem_append_right _ hz))) hC
                · rw [hvals]
                  intro u hu
                  rcases List.mem_append.1 hu with hu | hu
                  · rcases List.mem_append.1 hu with hu | hu
                    · exact k3 u (List.mem_of_mem_take hu)
                    · exact hv1 u hu
                  · exact k3 u (List.mem_of_mem_drop (List.mem_of_mem_drop hu))
          · exact evo_turn rfl rfl rfl (by simp) (fun q hq hqf => setRow_other w b q _ (fun e => hqf (by rw [hf, e]; simp))) (fun z hz => .inr ⟨id, by
              rw [hf, hfAB, hfSC]
              rcases List.mem_cons.1 hz with rfl | hz
              · simp
              · rcases List.mem_append.1 hz with hz | hz <;> simp [hz]⟩)
        · exact h.elim
      · exact h.elim
    · exact h.elim
  · exact h.elim
end
end Go.Proofs.YtcpefnjofekibaaDoor
