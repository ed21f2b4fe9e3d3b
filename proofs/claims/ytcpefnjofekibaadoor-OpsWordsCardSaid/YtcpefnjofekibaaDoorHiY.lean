/- Part Y of the engine: methods of values in interfaces; the greater of two; a text's bytes; an array cut; an object shut for good. Built after part P. -/
import Derived.Test.YtcpefnjofekibaaDoorHiP
import Derived.Lib.ConvBytes
namespace Go.Proofs.YtcpefnjofekibaaDoor
open Go.RowKit
set_option linter.unusedVariables false
set_option linter.unusedSimpArgs false

/-- The function that is a type's method, and that takes the value as it stands. -/
def methodFn (P : Program) (t : TypeId) (name : String) : Option Nat :=
  match P.info? t, P.underlying t with
  | some i, some d =>
    match i.methods.find? (·.name == name) with
    | some m =>
      match m.path.toList, m.func with
      | [], some (f, ptr) => if (match d with | .pointer _ => ptr | _ => !ptr) = true then some f else none
      | _, _ => none
    | none => none
  | _, _ => none

theorem run_method {P : Program} {t : TypeId} {name : String} {f : Nat} {w : World} (v : Value) (h : methodFn P t name = some f) : (method (P.types.size + Made.depth) t v name).run P w = .ok (f, v) w := by
  unfold methodFn at h
  split at h
  · rename_i i d hi hd
    split at h
    · rename_i m hm
      split at h
      · rename_i f' ptr hp hf
        obtain ⟨k, hk⟩ : ∃ k, P.types.size + Made.depth = k + 1 := ⟨P.types.size + (Made.depth - 1), by simp [Made.depth]⟩
        rw [hk]
        simp only [method, typeInfo, Sem.run_bind, run_program, Result.andThen_ok, hi, hm, hp, hf, follow, Sem.run_pure, receiverAt, run_underlying hd]
        cases d <;> cases ptr <;> simp at h <;> subst h <;> simp [Place.get]
      · cases h
    · cases h
  · cases h

section
variable {P : Program} {N L : Nat} {T : Nat → HV} {H : Heap} {K : KT}

/-- A method of a value in an interface is called. -/
theorem HO_invoke {o : Oper} {rv : Operand} {name : String} {args : Array Operand} {tys : Array TypeId} {t : TypeId} {x : HV} {fid : Nat} {K : (Nat → HV) → Heap → Prop} {Q : HV → Heap → Prop}
    (ho : o.op = .call { callee := .invoke rv name, args := args, argTypes := tys }) (hok : operOk N o = true) (hf : hev T rv = .ic t x) (hm : methodFn P t name = some fid)
    (hc : HCalls P fid H (x :: args.toList.map (hev T)) Q) (hK : ∀ r H', Q r H' → H'.length = H.length → K (updO T o.dst (nameV r H').1) (nameV r H').2) : HO P N L o T H K := by
  intro ro n B Z G FP ds a w hB hL hs next QQ hn
  refine ⟨fun _ _ => trivial, ?_⟩
  rw [semAt_plain _ _ _ (by rw [ho]; intro c; simp)]
  have hfv := hs.hev rv (opds_mem hok (by simp [ho, Op.operands, Call.operands]))
  rw [hf] at hfv
  simp only [RV] at hfv
  obtain ⟨_, z, hfe, hcl⟩ := hfv
  have hargs : args.toList.all (opdOk N) = true := by
    rw [List.all_eq_true]
    intro x hx
    exact opds_mem hok (by simp [ho, Op.operands, Call.operands]; exact .inr (by simpa using hx))
  have hal := RL_evals hs args.toList hargs
  have hvals : RL Z G w (x :: args.toList.map (hev T)) (z :: args.toList.map a.eval) [] := by
    simp only [RL]
    exact ⟨_, _, [], [], rfl, rfl, hcl, hal⟩
  have hrun : (execOp a.eval o).run P w = .ok (.enter fid (z :: args.toList.map a.eval).toArray) w := by
    have e : #[z] ++ (#[Value.iface t z] ++ args.map a.eval).extract 1 (#[Value.iface t z] ++ args.map a.eval).size = (z :: args.toList.map a.eval).toArray := by
      apply Array.ext'; simp [List.take_of_length_le]
    simp only [execOp, ho, resolve, hfe, Sem.run_bind, Sem.run_pure, Result.andThen_ok, invoke]
    have e0 : (#[Value.iface t z] ++ args.map a.eval)[0]? = some (Value.iface t z) := by rw [Array.getElem?_append_left (by simp)]; rfl
    rw [e0]
    simp only [callMethod, Sem.run_bind, run_program, Result.andThen_ok, run_method z hm, e]
    exact hc.1 _ _
  rw [hrun, Oper.uponIn_enter]
  refine ⟨fun h => by cases ro <;> simp [Wd, Fence.wide] at h, callsIn_wd (Calls.mono (hc.2 Z G FP w _ hs.inv hvals) ?_)⟩
  rintro e w' ⟨v, r, H', Z', G', FP', fr, rfl, hQ, hlen, hi', hr, hnd, hfr1, hfr2, hG, hE⟩
  obtain ⟨G2, FP2, hnm, hrv⟩ := nameV_spec r G' FP' H' v fr hi' hr hnd hfr1
  have hE2 : Evo Z FP w Z' FP2 w' := by
    refine ⟨hE.os, hE.tape, hE.output, hE.size, hE.keep, hE.zle, hE.znew, fun id b hb => ?_⟩
    rcases hnm.fp id b hb with h | ⟨id', h⟩
    · exact hfr2 b h
    · exact hE.fnew id' b h
  refine hn _ _ ⟨_, _, Z', G2, FP2, hK r H' hQ hlen, (hs.evo hnm.inv (hG.trans hnm.le) hE2).put hrv o.dst ?_, GLt.of hL (hG.trans hnm.le), hE2⟩
  intro i hi
  have := hok
  simp only [operOk, dstOk, hi, Bool.and_eq_true, decide_eq_true_eq] at this
  exact this.1

/-- The greater, or the less, of two whole numbers. -/
def hmm (b : Bool) (x y : HV) (K : HV → Prop) : Prop :=
  match x, y with
  | .v (.int k x), .v (.int _ y) => K (.v (.int k (if b = true then (if y > x then y else x) else (if y < x then y else x))))
  | _, _ => False

theorem HR_max {o : Oper} {x y : Operand} {t u : TypeId} (ho : o.op = .call { callee := .builtin .max, args := #[x, y], argTypes := #[t, u] }) (hok : operOk N o = true) (h : hmm true (hev T x) (hev T y) (fun v => K v H)) : HQ P N o T H K :=
  fun B Z G FP ds a w hs => by
    have hx := hs.hev x (opds_mem hok (by simp [ho, Op.operands, Call.operands]))
    have hy := hs.hev y (opds_mem hok (by simp [ho, Op.operands, Call.operands]))
    unfold hmm at h
    split at h
    · rename_i k x' k' y' e1 e2
      rw [e1] at hx; rw [e2] at hy
      refine ⟨_, _, ?_, h, by simp [RV]; rfl⟩
      simp [execOp, ho, resolve, invoke, builtin, Builtin.max_, RV_v hx, RV_v hy, List.foldlM, Builtin.max2]
    · exact h.elim

theorem HR_min {o : Oper} {x y : Operand} {t u : TypeId} (ho : o.op = .call { callee := .builtin .min, args := #[x, y], argTypes := #[t, u] }) (hok : operOk N o = true) (h : hmm false (hev T x) (hev T y) (fun v => K v H)) : HQ P N o T H K :=
  fun B Z G FP ds a w hs => by
    have hx := hs.hev x (opds_mem hok (by simp [ho, Op.operands, Call.operands]))
    have hy := hs.hev y (opds_mem hok (by simp [ho, Op.operands, Call.operands]))
    unfold hmm at h
    split at h
    · rename_i k x' k' y' e1 e2
      rw [e1] at hx; rw [e2] at hy
      refine ⟨_, _, ?_, h, by simp [RV]; rfl⟩
      simp [execOp, ho, resolve, invoke, builtin, Builtin.min_, RV_v hx, RV_v hy, List.foldlM, Builtin.min2]
    · exact h.elim

end

section
variable {Z Z' : Nat → Prop} {G : List (Option OG)} {FP : Nat → List Nat} {H : Heap} {w : World}

/-- More is shut: what nobody owns. -/
theorem HInv.zmore (h : HInv Z G FP H w) (hz : ∀ b, Z b → Z' b) (hlt : ∀ b, Z' b → b < w.heap.size) (hfp : ∀ id b, b ∈ FP id → ¬ Z' b) : HInv Z' G FP H w := by
  refine ⟨h.len, h.dead, h.nofp, fun id o ho => ?_, h.nodup, h.disj, hlt, h.flt, hfp, h.glob.keep hz (fun _ _ => rfl)⟩
  obtain ⟨g, hg, hob⟩ := h.live id o ho
  exact ⟨g, hg, hob.keep (fun _ _ => rfl) hz (GLe.refl _) (fun _ _ => rfl)⟩

/-- What an object owns is shut for good; the object is forgotten. -/
def Zid (Z : Nat → Prop) (FP : Nat → List Nat) (id : Nat) : Nat → Prop := fun b => Z b ∨ b ∈ FP id

theorem HInv.freeze (h : HInv Z G FP H w) (id : Nat) : HInv (Zid Z FP id) (G.set id none) (fun j => if j = id then [] else FP j) (H.set id none) w := by
  refine (h.kill id).zmore (fun b hb => .inl hb) (fun b hb => ?_) (fun j b hj hz => ?_)
  · rcases hb with hb | hb
    · exact h.zlt b hb
    · exact h.flt id b hb
  · by_cases e : j = id
    · simp [e] at hj
    · simp only [if_neg e] at hj
      rcases hz with hz | hz
      · exact h.zfp j b hj hz
      · exact e (h.disj j id b hj hz)

theorem evo_freeze (id : Nat) : Evo Z FP w (Zid Z FP id) (fun j => if j = id then [] else FP j) w := by
  refine ⟨rfl, rfl, rfl, Nat.le_refl _, fun _ _ _ => rfl, fun _ h => .inl h, fun b hb => ?_, fun j b hb => ?_⟩
  · rcases hb with hb | hb
    · exact .inl hb
    · exact .inr (.inr ⟨id, hb⟩)
  · by_cases e : j = id
    · simp [e] at hb
    · simp only [if_neg e] at hb; exact .inr ⟨j, hb⟩

theorem RC_single {b : Nat} : ∀ (l : List HV) (k : Nat), RC Z G w l b k [] → RR Z G w (l.map fun c => [c]) b k []
  | [], k, _ => by simp [RR]
  | c :: t, k, h => by
    simp only [RC] at h
    obtain ⟨y, f1, f2, hf, h1, h2, h3, h4⟩ := h
    obtain ⟨rfl, rfl⟩ := List.append_eq_nil_iff.1 hf.symm
    simp only [List.map_cons, RR, RC, List.length_cons, List.length_nil]
    exact ⟨[], [], rfl, ⟨y, [], [], rfl, h1, h2, h3, rfl⟩, RC_single t (k + 1) h4⟩
end

section
variable {P : Program} {N L : Nat} {T : Nat → HV} {H : Heap} {K : KT}

/-- A text's bytes, in memory of their own that nobody will write. -/
def hbytes (P : Program) (H : Heap) (src dst : TypeId) (x : HV) (K : KT) : Prop :=
  match x with
  | .v (.string s) =>
    match elemTI P dst 3 with
    | some (_, e, _) => kindIs P src 4 = true ∧ intTy P e = some .u8 ∧ s.size ≤ 140737488355328 ∧ K (.sl ((bl s).map byteRow)) H
    | none => False
  | _ => False

theorem RR_bytes {Z : Nat → Prop} {w : World} {b : Nat} : ∀ (l : List UInt8) (k : Nat), (∀ j (h : j < l.length), w.cell? ⟨b, k + j, none⟩ = some (.int .u8 (l[j].toNat : Int))) → RR Z [] w (l.map byteRow) b k []
  | [], k, _ => by simp [RR]
  | c :: t, k, h => by
    simp only [List.map_cons, RR, byteRow, RC, List.length_cons, List.length_nil]
    refine ⟨[], [], rfl, ⟨_, [], [], rfl, by simpa using h 0 (by simp), rfl, by simp [RV], rfl⟩, RR_bytes t (k + 1) fun j hj => ?_⟩
    have := h (j + 1) (by simp; omega)
    simp only [List.getElem_cons_succ] at this
    rw [← this]; congr 2; omega

theorem HR_bytes {o : Oper} {src dst : TypeId} {x : Operand} (ho : o.op = .convert src dst x) (hok : operOk N o = true) (h : hbytes P H src dst (hev T x) K) : HR P N o T H K := by
  intro B Z G FP ds a w hs
  have hx := hs.hev x (opds_mem hok (by simp [ho, Op.operands]))
  unfold hbytes at h
  split at h
  · rename_i s e
    rw [e] at hx
    split at h
    · rename_i x0 e0 te he
      obtain ⟨h1, h2, h3, hK⟩ := h
      obtain ⟨hs1, hs2⟩ := elem_slice he
      have hrun := Lib.run_convert_string_bytes (P := P) w src dst e0 s (kind_string h1) hs1 (intTy_spec h2)
      have hsz := Lib.bytesWorld_size w e0 s
      have hold := Lib.bytesWorld_at_old w e0 s
      let Z' : Nat → Prop := fun b => Z b ∨ b = w.heap.size
      have hi1 : HInv Z G FP H (Lib.bytesWorld w e0 s) := hs.inv.keep (by omega) (fun b hb => hold b (by
        rcases hb with hb | ⟨id, hb⟩
        · exact hs.inv.zlt b hb
        · exact hs.inv.flt id b hb))
      have hi2 : HInv Z' G FP H (Lib.bytesWorld w e0 s) := hi1.zmore (fun b hb => .inl hb) (fun b hb => by
          rcases hb with hb | hb
          · have := hs.inv.zlt b hb; omega
          · omega) (fun id b hb hz => by
          rcases hz with hz | hz
          · exact hs.inv.zfp id b hb hz
          · have := hs.inv.flt id b hb; omega)
      have hcap := grownCap_ge w s.size 0 e0
      have hcm := grownCap_le_maxLen w s.size 0 e0 (by simp only [maxLen]; omega)
      refine ⟨.value (.slice (some ⟨w.heap.size, 0, none⟩) s.size (grownCap w s.size 0 e0)), _, Lib.bytesWorld w e0 s, _, H, Z', G, FP, ?_, .inl rfl, hK, ?_, hi2, GLe.refl _, ?_⟩
      · simp only [execOp, ho, Sem.run_bind, RV_v hx, hrun, Result.andThen_ok, Sem.run_pure]
      · have hlen : ((bl s).map byteRow).length = s.size := by simp only [bl, List.length_map, Array.length_toList]; rfl
        simp only [RV]
        refine ⟨trivial, _, _, by rw [hlen], by rw [hlen]; exact hcap, hcm, .inr ⟨w.heap.size, 0, rfl, .inr rfl, ?_, ?_⟩⟩
        · refine uni_len (sz := 1) fun r hr => ?_
          obtain ⟨c, _, rfl⟩ := List.mem_map.1 hr
          rfl
        · refine RR_bytes _ _ fun j hj => ?_
          have hj' : j < s.size := hj
          have := Lib.bytesWorld_cell w e0 s j hj'
          rw [Nat.zero_add, this]
          have e2 : s.data.toList.getD j 0 = (bl s)[j] := by
            show (bl s).getD j 0 = _
            rw [List.getD_eq_getElem?_getD, List.getElem?_eq_getElem hj]; rfl
          rw [e2]
          rfl
      · refine ⟨?_, ?_, ?_, by omega, fun b hb _ => hold b hb, fun _ h => .inl h, fun b hb => ?_, fun id b hb => .inr ⟨id, hb⟩⟩
        · simp [Lib.bytesWorld, World.freeze, World.alloc, World.drew, -World.alloc_eq, -World.drew_eq]
        · simp [Lib.bytesWorld, World.freeze, World.alloc, World.drew, -World.alloc_eq, -World.drew_eq]
        · simp [Lib.bytesWorld, World.freeze, World.alloc, World.drew, -World.alloc_eq, -World.drew_eq]
        · rcases hb with hb | hb
          · exact .inl hb
          · exact .inr (.inl (by omega))
    · exact h.elim
  · exact h.elim

/-- An array that is cut: how many elements, each of one cell. -/
def arrTI (P : Program) (t : TypeId) : Option Nat :=
  match elemTI P t 2 with
  | some (x, _, e) => if e.size = 1 then some x.num else none
  | none => none

/-- A part of an array that nobody will write any more. -/
def hcutA (P : Program) (T : Nat → HV) (H : Heap) (t : TypeId) (x : HV) (lo : Operand) (K : KT) : Prop :=
  match x with
  | .pt id n 0 0 =>
    match arrTI P t, hev T lo with
    | some m, .v (.int _ z) =>
      match H[id]? with
      | some (some ob) =>
        match ob.rows with
        | [row] => n = 1 ∧ row.length = m ∧ m ≤ 140737488355328 ∧ 0 ≤ z ∧ z ≤ (m : Int) ∧ K (.sl (((fzoL row).map fun c => [c]).drop z.toNat)) (H.set id none)
        | _ => False
      | _ => False
    | _, _ => False
  | _ => False

theorem HR_cutA {o : Oper} {t : TypeId} {x lo : Operand} (ho : o.op = .slice t x (some lo) none none) (hok : operOk N o = true) (h : hcutA P T H t (hev T x) lo K) : HR P N o T H K := by
  intro B Z G FP ds a w hs
  have hx := hs.hev x (opds_mem hok (by simp [ho, Op.operands]))
  have hl := hs.hev lo (opds_mem hok (by simp [ho, Op.operands]))
  unfold hcutA at h
  split at h
  · rename_i id n ex
    rw [ex] at hx
    split at h
    · rename_i m k z hm hz
      rw [hz] at hl
      split at h
      · rename_i ob hob
        split at h
        · rename_i row hrow
          obtain ⟨h1, h2, h3, h4, h5, hK⟩ := h
          unfold arrTI at hm
          split at hm
          · rename_i tx te e he
            split at hm
            · rename_i he1
              cases hm
              obtain ⟨hs1, hs2⟩ := elem_array he
              obtain ⟨g, b, cells, f, hg, hOB, hb, hf, hh, hc, hcap, hml, hrr, hy, hrl⟩ := pt_at hs.inv hob (by rw [hrow]; exact h1) (show ob.rows[0]? = some row by rw [hrow]; rfl) hx
              have hi2 := hs.inv.freeze id
              have hbd := cut_bounds (P := P) (isS := false) (len := tx.num) (cap := tx.num) (li := z) (hi' := (tx.num : Int)) hs (lo := some lo) (hi := none) (by simp [cutLo, hz]) rfl (fun y hy => opds_mem hok (by cases hy; simp [ho, Op.operands])) (by simp) h4 h5 (Int.le_refl _)
              have hrun : (execOp a.eval o).run P w = .ok (.value (.slice (some (if tx.num = z.toNat then ⟨b, 0, none⟩ else (⟨b, 0, none⟩ : Addr).add z.toNat)) (tx.num - z.toNat) (tx.num - z.toNat))) w := by
                simp only [Option.map_some, Option.map_none, RV_v hl, Int.toNat_natCast] at hbd
                simp only [execOp, ho, hy, RV_v hl, Instr.sliceAt, Option.map_some, Option.map_none, Sem.run_bind, run_underlying hs1, Result.andThen_ok, Instr.sureAddr, Sem.run_pure, hbd, run_sizeOf hs2, he1, Nat.mul_one, Nat.zero_mul, Nat.add_zero]
              have hlz : z.toNat ≤ tx.num := by omega
              have hrlen : (((fzoL row).map fun c => [c]).drop z.toNat).length = tx.num - z.toNat := by rw [List.length_drop, List.length_map, fzoL_length, h2]
              have hRC : RC (Zid Z FP id) [] w (fzoL row) b 0 [] := by
                rw [hrow] at hrr
                simp only [RR] at hrr
                obtain ⟨f1, f2, hff, hrc, _⟩ := hrr
                exact fzoC_spec row _ b 0 f1 ⟨fun c hc => .inl hc, fun c hc => .inr (by rw [hf, hff]; simp [hc])⟩ hrc
              refine ⟨_, _, w, _, _, Zid Z FP id, _, _, hrun, .inl rfl, hK, ?_, hi2, GLe.kill id, evo_freeze id⟩
              simp only [RV]
              refine ⟨trivial, _, _, by rw [hrlen], by rw [hrlen]; omega, by simp only [maxLen]; omega, ?_⟩
              by_cases hz0 : tx.num = z.toNat
              · left
                apply List.eq_nil_of_length_eq_zero
                rw [hrlen]; omega
              · right
                refine ⟨b, z.toNat, by rw [if_neg hz0]; simp [add_lit], .inr (by rw [hf]; simp), ?_, ?_⟩
                · refine uni_len (sz := 1) fun r hr => ?_
                  obtain ⟨c, _, rfl⟩ := List.mem_map.1 (List.mem_of_mem_drop hr)
                  rfl
                · have hd := RR_drop (sz := 1) ((fzoL row).map fun c => [c]) 0 z.toNat [] (fun r hr => by obtain ⟨c, _, rfl⟩ := List.mem_map.1 hr; rfl) (RC_single _ _ hRC)
                  obtain ⟨f', hd1, hd2⟩ := hd
                  have : f' = [] := List.eq_nil_of_sublist_nil hd2
                  subst this
                  simpa using hd1
            · cases hm
          · cases hm
        · exact h.elim
      · exact h.elim
    · exact h.elim
  · exact h.elim
end

section
variable {Z Z' : Nat → Prop} {w w' : World}

mutual
/-- What is told names objects that there are. -/
theorem RV_nm : ∀ (h : HV) (G : List (Option OG)) (y : Value) (fr : List Nat), RV Z G w h y fr → nm G.length h = true
  | .hd .., G, y, fr, h => by simp only [RV] at h; simpa [nm] using h.2.2.1
  | .pt .., G, y, fr, h => by simp only [RV] at h; simpa [nm] using h.2.2.1
  | .mp _, G, y, fr, h => by simp only [RV] at h; simpa [nm] using h.2.2.1
  | .yl _, G, y, fr, h => by simp only [RV] at h; simpa [nm] using h.2.1
  | .ag cs, G, y, fr, h => by simp only [RV] at h; obtain ⟨ys, _, h⟩ := h; simpa only [nm] using RL_nm cs G _ _ h
  | .tu cs, G, y, fr, h => by simp only [RV] at h; obtain ⟨ys, _, h⟩ := h; simpa only [nm] using RL_nm cs G _ _ h
  | .fn _ cs, G, y, fr, h => by simp only [RV] at h; obtain ⟨ys, _, h⟩ := h; simpa only [nm] using RL_nm cs G _ _ h
  | .ic _ x, G, y, fr, h => by simp only [RV] at h; obtain ⟨_, z, _, h⟩ := h; simpa only [nm] using RV_nm x G z _ h
  | .any, _, _, _, _ => rfl
  | .v _, _, _, _, _ => rfl
  | .sl _, _, _, _, _ => rfl
  | .ow .., _, _, _, _ => rfl
  | .fp .., _, _, _, _ => rfl
  | .bx .., _, _, _, _ => rfl
  | .ob _, _, _, _, _ => rfl
  | .om .., _, _, _, _ => rfl
theorem RL_nm : ∀ (l : List HV) (G : List (Option OG)) (ys : List Value) (fr : List Nat), RL Z G w l ys fr → nmL G.length l = true
  | [], _, _, _, _ => rfl
  | h :: t, G, ys, fr, hr => by
    simp only [RL] at hr
    obtain ⟨y, ys', f1, f2, _, _, h1, h2⟩ := hr
    simp only [nmL, RV_nm h G y f1 h1, RL_nm t G ys' f2 h2, Bool.and_self]
end
theorem RC_nm : ∀ (l : List HV) (G : List (Option OG)) (b k : Nat) (fr : List Nat), RC Z G w l b k fr → nmL G.length l = true
  | [], _, _, _, _, _ => rfl
  | h :: t, G, b, k, fr, hr => by
    simp only [RC] at hr
    obtain ⟨y, f1, f2, _, _, _, h1, h2⟩ := hr
    simp only [nmL, RV_nm h G y f1 h1, RC_nm t G b (k + 1) f2 h2, Bool.and_self]
theorem RR_nm : ∀ (l : List (List HV)) (G : List (Option OG)) (b k : Nat) (fr : List Nat), RR Z G w l b k fr → nmR G.length l = true
  | [], _, _, _, _, _ => rfl
  | r :: t, G, b, k, fr, hr => by
    simp only [RR] at hr
    obtain ⟨f1, f2, _, h1, h2⟩ := hr
    simp only [nmR, RC_nm r G b k f1 h1, RR_nm t G b _ f2 h2, Bool.and_self]

theorem OB.nm {G : List (Option OG)} {o : HObj} {g : OG} {fp : List Nat} (h : OB Z G w o g fp) : nmR G.length o.rows = true := by
  rcases h.at_ with ⟨_, e, _⟩ | ⟨b, cells, f, _, _, _, _, _, _, e⟩ | ⟨x, hs, obj, f, _, e, _, _, _, e'⟩
  · rw [e]; rfl
  · exact RR_nm _ _ _ _ _ e
  · rw [e]
    simp only [nmR, nmL, Go.Proofs.YtcpefnjofekibaaDoor.nm, RL_nm _ _ _ _ e', Bool.and_self]

theorem HInv.nm {G : List (Option OG)} {FP : Nat → List Nat} {H : Heap} (h : HInv Z G FP H w) : nmH H.length H = true := by
  unfold nmH
  rw [List.take_length, List.all_eq_true]
  intro o ho
  cases o with
  | none => rfl
  | some ob =>
    obtain ⟨i, hi⟩ := List.mem_iff_getElem?.1 ho
    obtain ⟨g, _, hob⟩ := h.live i ob hi
    have := hob.nm
    rw [h.len] at this
    exact this

end
end Go.Proofs.YtcpefnjofekibaaDoor
