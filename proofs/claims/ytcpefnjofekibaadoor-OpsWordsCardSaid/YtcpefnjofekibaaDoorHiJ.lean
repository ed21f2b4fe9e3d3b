/- Part J of the engine: more operations that only reckon. -/
import Derived.Test.YtcpefnjofekibaaDoorHiI
namespace Go.Proofs.YtcpefnjofekibaaDoor
open Go.RowKit
set_option linter.unusedVariables false
set_option linter.unusedSimpArgs false

def hun (op : UnOp) (x : HV) (K : HV → Prop) : Prop :=
  match op, x with
  | .not, .v (.bool b) => K (.v (.bool (!b)))
  | .neg, .v (.int k n) => K (.v (.int k (k.wrap (0 - n))))
  | _, _ => False

def hextract (x : HV) (i : Nat) (K : HV → Prop) : Prop :=
  match x with
  | .tu vs => match vs[i]? with | some v => K v | none => False
  | _ => False

/-- Of what kind of whole numbers is a type? -/
def intTy (P : Program) (t : TypeId) : Option IntKind := match P.underlying t with | some (.int k) => some k | _ => none

def hconvI (P : Program) (src dst : TypeId) (x : HV) (K : HV → Prop) : Prop :=
  match x with
  | .v (.int k n) => (match intTy P src, intTy P dst with
    | some _, some k' => K (.v (.int k' (k'.wrap n)))
    | _, _ => False)
  | .v (.string s) => kindIs P src 4 = true ∧ kindIs P dst 4 = true ∧ K (.v (.string s))
  | _ => False

def hiface (P : Program) (t : TypeId) (x : HV) (K : HV → Prop) : Prop :=
  match ti P t with
  | some y => y.kind ≠ 9 ∧ tv x = true ∧ K (.ic t x)
  | none => False

/-- What leads somewhere, as nilCheck asks it. -/
def hsure (H : Heap) (x : HV) (K : HV → Prop) : Prop :=
  match x with
  | .fp _ _ _ => K x
  | .pt id n r o => liveAt H x = true ∧ K x
  | .fn _ _ => K x
  | .ic _ _ => K x
  | _ => False

section
variable {P : Program} {N : Nat} {T : Nat → HV} {H : Heap} {K : KT} {Z : Nat → Prop} {G : List (Option OG)} {FP : Nat → List Nat} {w : World}

theorem HR_un {o : Oper} {op : UnOp} {t : TypeId} {x : Operand} (ho : o.op = .unOp op t x) (hok : operOk N o = true) (h : hun op (hev T x) (fun v => K v H)) : HQ P N o T H K :=
  fun B Z G FP ds a w hs => by
    have hx := hs.hev x (opds_mem hok (by simp [ho, Op.operands]))
    unfold hun at h
    split at h
    · rename_i b e
      rw [e] at hx
      exact ⟨.bool (!b), _, by simp [execOp, ho, RV_v hx, Op.unary], h, by simp [RV]⟩
    · rename_i k n e
      rw [e] at hx
      exact ⟨.int k (k.wrap (0 - n)), _, by simp [execOp, ho, RV_v hx, Op.unary, Op.intArith], h, by simp [RV]⟩
    · exact h.elim

theorem HR_extract {o : Oper} {x : Operand} {i : Nat} (ho : o.op = .extract x i) (hok : operOk N o = true) (h : hextract (hev T x) i (fun v => K v H)) : HQ P N o T H K :=
  fun B Z G FP ds a w hs => by
    have hx := hs.hev x (opds_mem hok (by simp [ho, Op.operands]))
    unfold hextract at h
    split at h
    · rename_i vs e
      rw [e] at hx
      simp only [RV] at hx
      obtain ⟨ys, hy, hl⟩ := hx
      split at h
      · rename_i v hv
        obtain ⟨y, f, hyi, hr, hsub⟩ := RL_get _ _ _ hl i v hv
        have : f = [] := List.eq_nil_of_sublist_nil hsub
        subst this
        refine ⟨y, v, ?_, h, hr⟩
        rw [Array.getElem?_toList] at hyi
        simp [execOp, ho, hy, Instr.extract, hyi]
      · exact h.elim
    · exact h.elim

theorem intTy_spec {t : TypeId} {k : IntKind} (h : intTy P t = some k) : P.underlying t = some (.int k) := by
  unfold intTy at h
  split at h
  · rename_i k' hk; cases h; exact hk
  · cases h

theorem HR_convI {o : Oper} {src dst : TypeId} {x : Operand} (ho : o.op = .convert src dst x) (hok : operOk N o = true) (h : hconvI P src dst (hev T x) (fun v => K v H)) : HQ P N o T H K :=
  fun B Z G FP ds a w hs => by
    have hx := hs.hev x (opds_mem hok (by simp [ho, Op.operands]))
    unfold hconvI at h
    split at h
    · rename_i k n e
      rw [e] at hx
      split at h
      · rename_i k1 k2 h1 h2
        refine ⟨_, _, ?_, h, by simp [RV]; rfl⟩
        simp [execOp, ho, RV_v hx, convert, run_underlying (intTy_spec h1), run_underlying (intTy_spec h2), Conv.intToInt]
      · exact h.elim
    · rename_i s e
      rw [e] at hx
      refine ⟨_, _, ?_, h.2.2, by simp [RV]; rfl⟩
      simp [execOp, ho, RV_v hx, convert, run_underlying (kind_string h.1), run_underlying (kind_string h.2.1)]
    · exact h.elim

theorem HR_iface {o : Oper} {t : TypeId} {x : Operand} (ho : o.op = .makeInterface t x) (hok : operOk N o = true) (h : hiface P t (hev T x) (fun v => K v H)) : HQ P N o T H K :=
  fun B Z G FP ds a w hs => by
    have hx := hs.hev x (opds_mem hok (by simp [ho, Op.operands]))
    unfold hiface at h
    split at h
    · rename_i y hy
      obtain ⟨h1, h2, hK⟩ := h
      obtain ⟨d, i, hd, hi, rfl⟩ := ti_spec hy
      rw [TI.of_kind] at h1
      refine ⟨.iface t (a.eval x), _, ?_, hK, by simp only [RV]; exact ⟨trivial, _, rfl, hx⟩⟩
      cases d <;> simp at h1 <;> simp [execOp, ho, Instr.makeInterface, run_underlying hd]
    · exact h.elim

theorem RL_evals {N B : Nat} {ds : List Nat} {a : Act} (hs : St N B Z G FP ds T H a w) : ∀ xs : List Operand, xs.all (opdOk N) = true → RL Z G w (xs.map (hev T)) (xs.map a.eval) []
  | [], _ => by simp [RL]
  | x :: xs, h => by
    simp only [List.all_cons, Bool.and_eq_true] at h
    simp only [List.map_cons, RL]
    exact ⟨_, _, [], [], rfl, rfl, hs.hev x h.1, RL_evals hs xs h.2⟩

theorem HR_func {o : Oper} {f : Nat} {cs : Array Operand} (ho : o.op = .makeFunc (.func f) #[] cs) (hok : operOk N o = true) (h : K (.fn f (cs.toList.map (hev T))) H) : HQ P N o T H K :=
  fun B Z G FP ds a w hs => by
    have hcs : cs.toList.all (opdOk N) = true := by
      rw [List.all_eq_true]
      intro x hx
      exact opds_mem hok (by simp [ho, Op.operands]; simpa using hx)
    refine ⟨.func (.func f) #[] (cs.map a.eval), _, ?_, h, ?_⟩
    · simp [execOp, ho, Instr.makeFunc]
    · simp only [RV]
      exact ⟨_, rfl, by rw [Array.toList_map]; exact RL_evals hs _ hcs⟩

theorem HR_sure {o : Oper} {x : Operand} (ho : o.op = .nilCheck x) (hok : operOk N o = true) (h : hsure H (hev T x) (fun v => K v H)) : HQ P N o T H K :=
  fun B Z G FP ds a w hs => by
    have hx := hs.hev x (opds_mem hok (by simp [ho, Op.operands]))
    refine ⟨a.eval x, hev T x, ?_, ?_, hx⟩
    · unfold hsure at h
      split at h
      · rename_i e; rw [e] at hx; simp only [RV] at hx; obtain ⟨_, b, q, hy, _⟩ := hx; simp [execOp, ho, hy]
      · rename_i e; obtain ⟨b, q, hy, _⟩ := live_at hs.inv h.1 hx; simp [execOp, ho, hy]
      · rename_i e; rw [e] at hx; simp only [RV] at hx; obtain ⟨ys, hy, _⟩ := hx; simp [execOp, ho, hy]
      · rename_i e; rw [e] at hx; simp only [RV] at hx; obtain ⟨_, z, hy, _⟩ := hx; simp [execOp, ho, hy]
      · exact h.elim
    · unfold hsure at h
      split at h <;> first | exact h | exact h.2 | exact h.elim

theorem bl_get {s : ByteArray} {i : Nat} {b : UInt8} (h : (bl s)[i]? = some b) : s.data[i]? = some b ∧ i < s.size := by
  unfold bl at h
  rw [Array.getElem?_toList] at h
  exact ⟨h, (Array.getElem?_eq_some_iff.1 h).1⟩

theorem HR_index {o : Oper} {t : TypeId} {x i : Operand} (ho : o.op = .index t x i) (hok : operOk N o = true) (h : hindex P H t (hev T x) (hev T i) K) : HQ P N o T H K :=
  fun B Z G FP ds a w hs => by
    have hx := hs.hev x (opds_mem hok (by simp [ho, Op.operands]))
    have hi := hs.hev i (opds_mem hok (by simp [ho, Op.operands]))
    unfold hindex at h
    split at h
    · rename_i s k z e1 e2
      rw [e1] at hx; rw [e2] at hi
      obtain ⟨hk, h0, h⟩ := h
      split at h
      · rename_i b hb
        obtain ⟨hb1, hb2⟩ := bl_get hb
        have hlt : z < (s.size : Int) := by omega
        have hb3 := (Array.getElem?_eq_some_iff.1 hb1).2
        refine ⟨.int .u8 (b.toNat : Int), _, ?_, h, by simp [RV]⟩
        simp [execOp, ho, RV_v hx, RV_v hi, Instr.index, asIntOf, run_underlying (kind_string hk), h0, hlt]
        have : s[z.toNat] = s.data[z.toNat] := rfl
        rw [this, hb3]
      · exact h.elim
    · rename_i cs k z e1 e2
      rw [e1] at hx; rw [e2] at hi
      split at h
      · rename_i arr e te he
        obtain ⟨hkT, h0, h1, hsz, hK⟩ := h
        obtain ⟨hs1, hs2⟩ := elem_array he
        simp only [RV] at hx
        obtain ⟨ys, hy, hl⟩ := hx
        have hlen := RL_length _ _ _ hl
        obtain ⟨f1, f2, hf12, _, h2⟩ := RL_split _ _ _ (z.toNat * te.size) hl
        obtain ⟨f3, f4, hf34, h3, _⟩ := RL_split _ _ _ te.size h2
        have e2 : f2 = [] := (List.append_eq_nil_iff.1 hf12.symm).2
        subst e2
        have e3 : f3 = [] := (List.append_eq_nil_iff.1 hf34.symm).1
        subst e3
        rw [Array.length_toList] at hlen
        refine ⟨_, _, ?_, hK, mkV_RV hkT (by simp; omega) h3⟩
        simp only [execOp, ho, RV_v hi, hy, Instr.index, asIntOf, Sem.run_bind, run_underlying hs1, Result.andThen_ok, Sem.run_pure]
        rw [if_pos ⟨h0, h1⟩]
        simp only [Sem.run_bind, run_sizeOf hs2, Result.andThen_ok]
        rw [run_part hs2 hkT (by omega)]
        rfl
      · exact h.elim
    · exact h.elim

theorem RR_cut {b sz : Nat} : ∀ (rows : List (List HV)) (k l n : Nat), (∀ r ∈ rows, r.length = sz) → RR Z G w rows b k [] → RR Z G w ((rows.drop l).take n) b (k + l * sz) []
  | [], k, l, n, _, _ => by simp [RR]
  | r :: t, k, 0, 0, _, _ => by simp [RR]
  | r :: t, k, 0, n + 1, hu, h => by
    simp only [RR] at h
    obtain ⟨f1, f2, hf, h1, h2⟩ := h
    obtain ⟨rfl, rfl⟩ := List.append_eq_nil_iff.1 hf.symm
    simp only [List.drop_zero, List.take_succ_cons, RR, Nat.zero_mul, Nat.add_zero]
    refine ⟨[], [], rfl, h1, ?_⟩
    have := RR_cut t (k + r.length) 0 n (fun x hx => hu x (by simp [hx])) h2
    simpa using this
  | r :: t, k, l + 1, n, hu, h => by
    simp only [RR] at h
    obtain ⟨f1, f2, hf, h1, h2⟩ := h
    obtain ⟨rfl, rfl⟩ := List.append_eq_nil_iff.1 hf.symm
    have := RR_cut t (k + r.length) l n (fun x hx => hu x (by simp [hx])) h2
    rw [hu r (by simp)] at this
    simp only [List.drop_succ_cons]
    rw [show k + (l + 1) * sz = k + sz + l * sz by rw [Nat.add_mul]; omega]
    exact this

/-- An object is forgotten. -/
theorem HInv.kill (h : HInv Z G FP H w) (id : Nat) : HInv Z (G.set id none) (fun j => if j = id then [] else FP j) (H.set id none) w := by
  refine ⟨by simp [h.len], fun j hj => ?_, fun j hj => ?_, fun j oj hj => ?_, fun j => ?_, fun i j b hi hj => ?_, h.zlt, fun j b hb => ?_, fun j b hb => ?_, h.glob⟩
  · by_cases e : id = j
    · subst e
      have : id < H.length := by have := (List.getElem?_eq_some_iff.1 hj).1; simpa using this
      simp [h.len, this]
    · rw [List.getElem?_set_ne e] at hj ⊢; exact h.dead j hj
  · by_cases e : j = id
    · simp [e]
    · simp only [if_neg e]; exact h.nofp j (fun x => by have := hj x; rwa [List.getElem?_set_ne (Ne.symm e)] at this)
  · by_cases e : id = j
    · subst e
      have : id < H.length := by have := (List.getElem?_eq_some_iff.1 hj).1; simpa using this
      simp [this] at hj
    · rw [List.getElem?_set_ne e] at hj ⊢
      obtain ⟨gj, hgj, hoj⟩ := h.live j oj hj
      refine ⟨gj, hgj, ?_⟩
      simp only [if_neg (Ne.symm e)]
      exact hoj.keep (fun _ _ => rfl) (fun _ h => h) (GLe.kill id) (fun _ _ => rfl)
  · by_cases e : j = id
    · simp [e]
    · simp only [if_neg e]; exact h.nodup j
  · by_cases e1 : i = id
    · simp [e1] at hi
    · by_cases e2 : j = id
      · simp [e2] at hj
      · simp only [if_neg e1] at hi; simp only [if_neg e2] at hj; exact h.disj i j b hi hj
  · by_cases e : j = id
    · simp [e] at hb
    · simp only [if_neg e] at hb; exact h.flt j b hb
  · by_cases e : j = id
    · simp [e] at hb
    · simp only [if_neg e] at hb; exact h.zfp j b hb

theorem evo_kill (id : Nat) : Evo Z FP w Z (fun j => if j = id then [] else FP j) w := by
  refine ⟨rfl, rfl, rfl, Nat.le_refl _, fun _ _ _ => rfl, fun _ h => h, fun _ h => .inl h, fun j b hb => ?_⟩
  by_cases e : j = id
  · simp [e] at hb
  · simp only [if_neg e] at hb; exact .inr ⟨j, hb⟩

theorem run_bound {k : IntKind} {z : Int} {y : Nat} {c : BoundsCode} (h0 : 0 ≤ z) (h1 : z ≤ (y : Int)) : (Instr.sliceBound (.int k z) y c).run P w = .ok z.toNat w := by
  unfold Instr.sliceBound
  simp only [asIntOf, Sem.run_bind, Sem.run_pure, Result.andThen_ok]
  rw [if_pos ⟨h0, h1⟩]
  simp

theorem cut_bounds {N B : Nat} {ds : List Nat} {a : Act} (hs : St N B Z G FP ds T H a w) {lo hi : Option Operand} {isS : Bool} {len cap : Nat} {li hi' : Int} (hlo : cutLo T lo = some li) (hhi : cutHi T len hi = some hi')
    (hlok : ∀ x, lo = some x → opdOk N x = true) (hhok : ∀ x, hi = some x → opdOk N x = true) (h0 : 0 ≤ li) (h1 : li ≤ hi') (h2 : hi' ≤ (cap : Int)) :
    (Instr.sliceBounds isS len cap (lo.map a.eval) (hi.map a.eval) none).run P w = .ok (li.toNat, hi'.toNat, cap) w := by
  have ev : ∀ (x : Operand) (z : Int), opdOk N x = true → (match hev T x with | .v (.int _ z) => some z | _ => none) = some z → ∃ k, a.eval x = .int k z := by
    intro x z hok hm
    have hx := hs.hev x hok
    split at hm
    · rename_i k z' e
      rw [e] at hx
      cases hm
      exact ⟨k, RV_v hx⟩
    · cases hm
  have hh : ((hi'.toNat : Nat) : Int) = hi' := by omega
  unfold Instr.sliceBounds
  cases hi with
  | none =>
    simp only [cutHi, Option.some.injEq] at hhi
    subst hhi
    cases lo with
    | none =>
      simp only [cutLo, Option.some.injEq] at hlo
      subst hlo
      simp
    | some x =>
      obtain ⟨k, hk⟩ := ev x li (hlok x rfl) hlo
      simp [hk, run_bound h0 h1]
  | some y =>
    obtain ⟨k', hk'⟩ := ev y hi' (hhok y rfl) hhi
    cases lo with
    | none =>
      simp only [cutLo, Option.some.injEq] at hlo
      subst hlo
      simp [hk', run_bound h1 h2]
    | some x =>
      obtain ⟨k, hk⟩ := ev x li (hlok x rfl) hlo
      have h1' : li ≤ ((hi'.toNat : Nat) : Int) := by omega
      have h0' : 0 ≤ hi' := by omega
      simp [hk, hk', run_bound h0' h2, run_bound h0 h1']

theorem HR_cut {o : Oper} {t : TypeId} {x : Operand} {lo hi : Option Operand} (ho : o.op = .slice t x lo hi none) (hok : operOk N o = true) (h : hcut P T H t (hev T x) lo hi K) : HQ P N o T H K :=
  fun B Z G FP ds a w hs => by
    have hx := hs.hev x (opds_mem hok (by simp [ho, Op.operands]))
    have hlok : ∀ y, lo = some y → opdOk N y = true := fun y hy => opds_mem hok (by subst hy; simp [ho, Op.operands])
    have hhok : ∀ y, hi = some y → opdOk N y = true := fun y hy => opds_mem hok (by subst hy; simp [ho, Op.operands])
    unfold hcut at h
    split at h
    · rename_i s e
      rw [e] at hx
      split at h
      · rename_i l hh hl hhh
        obtain ⟨hk, h0, h1, h2, hK⟩ := h
        refine ⟨.string (s.extract l.toNat hh.toNat), _, ?_, hK, by simp [RV]⟩
        simp only [execOp, ho, RV_v hx, Instr.sliceAt, Instr.slice, Option.map_none, Sem.run_bind, run_underlying (kind_string hk), Result.andThen_ok]
        simp [cut_bounds (P := P) (isS := false) hs hl hhh hlok hhok h0 h1 h2]
      · exact h.elim
    · rename_i rows e
      rw [e] at hx
      split at h
      · rename_i x0 e0 te l hh he hl hhh
        obtain ⟨hu, h0, h1, h2, hK⟩ := h
        obtain ⟨hs1, hs2⟩ := elem_slice he
        simp only [RV] at hx
        obtain ⟨_, ad, c, hy, hc, hm, hxx⟩ := hx
        have hbd := cut_bounds (P := P) (isS := true) (len := rows.length) (cap := c) hs hl hhh hlok hhok h0 h1 (by omega)
        refine ⟨.slice (if c = l.toNat then ad else ad.map (·.add (l.toNat * te.size))) (hh.toNat - l.toNat) (c - l.toNat), _, ?_, hK, ?_⟩
        · simp only [execOp, ho, hy, Instr.sliceAt, Instr.slice, Option.map_none, Sem.run_bind, run_underlying hs1, Result.andThen_ok, hbd, run_sizeOf hs2, Sem.run_pure]
        · simp only [RV]
          have hll : ((rows.drop l.toNat).take (hh.toNat - l.toNat)).length = hh.toNat - l.toNat := by simp; omega
          refine ⟨trivial, _, _, by rw [hll], by rw [hll]; omega, by omega, ?_⟩
          rcases hxx with rfl | ⟨b, q, rfl, hz, hun, hrr⟩
          · left; simp
          · by_cases hem : hh.toNat - l.toNat = 0
            · left; rw [hem]; simp
            · right
              have hne : c ≠ l.toNat := by omega
              have hne' : rows ≠ [] := fun e => by subst e; simp at h2; omega
              have hsz := rowLen_of hu hne'
              refine ⟨b, q + l.toNat * te.size, by simp [hne, add_lit], hz, ?_, RR_cut rows q l.toNat _ hu hrr⟩
              have hall : ∀ r ∈ (rows.drop l.toNat).take (hh.toNat - l.toNat), r.length = te.size := fun r hr => hu r (List.mem_of_mem_drop (List.mem_of_mem_take hr))
              intro r hr
              rw [hall r hr, rowLen_of hall (by intro e; rw [e] at hll; simp at hll; omega)]
      · exact h.elim
    · rename_i id off len e
      rw [e] at hx
      split at h
      · rename_i x0 e0 te l hh he hl hhh
        split at h
        · rename_i ob hob
          obtain ⟨hn, hsz, h0, h1, h2, hK⟩ := h
          subst h2
          obtain ⟨hs1, hs2⟩ := elem_slice he
          obtain ⟨g, hg, hOB, hview⟩ := hd_at hs.inv hob hn hx
          have hlt := hs.inv.lt hob
          unfold View at hview
          split at hview
          · rename_i hbn
            obtain ⟨hview, hv1, hv2⟩ := hview
            have hl0 : len = 0 := by
              rcases hOB.at_ with ⟨_, e1, _⟩ | ⟨b, cells, f, e1, _⟩ | ⟨u3, hs3, obj3, f3, e1, e3, _⟩
              · rw [e1] at hn; simp at hn; omega
              · rw [hbn] at e1; cases e1
              · have := congrArg List.length e3; simp only [List.length_cons, List.length_nil] at this; omega
            subst hl0
            have hll : l = 0 := by simp at h1; omega
            subst hll
            have hbd := cut_bounds (P := P) (isS := true) (len := 0) (cap := 0) hs hl hhh hlok hhok (by simp) (by simp) (by simp)
            refine ⟨.slice none 0 0, _, ?_, hK, ?_⟩
            · simp only [execOp, ho, hview, Instr.sliceAt, Instr.slice, Option.map_none, Sem.run_bind, run_underlying hs1, Result.andThen_ok, hbd, run_sizeOf hs2, Sem.run_pure]
              simp
            · simp only [RV]
              refine ⟨trivial, rfl, hlt, fun g' hg' => ?_⟩
              rw [hg] at hg'; cases hg'
              refine ⟨by rw [hOB.n]; simp; omega, fun _ => ?_⟩
              unfold View
              rw [hbn]
              exact ⟨rfl, by simp [hv1], by simp⟩
          · rename_i b hb
            obtain ⟨ad, hy, hA⟩ := hview
            have hcap : off + len ≤ g.cap := by
              obtain ⟨b', cells, f, e1, e2, e3, e4, e5, _⟩ := hOB.cells_ hb
              · omega
            have hbd := cut_bounds (P := P) (isS := true) (len := len) (cap := g.cap - off) hs hl hhh hlok hhok h0 h1 (by omega)
            refine ⟨.slice (some (if g.cap - off = l.toNat then ad else ad.add (l.toNat * te.size))) (len - l.toNat) (g.cap - off - l.toNat), _, ?_, hK, ?_⟩
            · simp only [execOp, ho, hy, Instr.sliceAt, Instr.slice, Option.map_none, Sem.run_bind, run_underlying hs1, Result.andThen_ok, hbd, run_sizeOf hs2, Sem.run_pure]
              by_cases hc : g.cap - off = l.toNat <;> simp [hc]
            · simp only [RV]
              refine ⟨trivial, rfl, hlt, fun g' hg' => ?_⟩
              rw [hg] at hg'; cases hg'
              refine ⟨by rw [hOB.n]; omega, fun _ => ?_⟩
              unfold View
              rw [hb]
              refine ⟨_, by rw [Nat.sub_sub], fun hne => ?_⟩
              have e1 : ad = ⟨b, off * g.sz, none⟩ := hA (by omega)
              have e2 : g.sz = te.size := by rw [hOB.sz, hsz]
              rw [e1, Nat.add_mul, e2]
              split
              · rename_i hc
                have : l.toNat = 0 := by omega
                rw [this]; simp
              · rw [add_lit]
        · exact h.elim
      · exact h.elim
    · exact h.elim
end
end Go.Proofs.YtcpefnjofekibaaDoor
