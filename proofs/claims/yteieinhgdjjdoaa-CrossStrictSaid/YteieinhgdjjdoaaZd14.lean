/- Parts of the proof: Qb, Yr, Yg, Yh, Qa, Qc, Qd, Qe. -/
import Derived.Test.YteieinhgdjjdoaaZd13
import Derived.Test.YteieinhgdjjdoaaZd08
import Derived.Test.YteieinhgdjjdoaaProg
import Derived.Test.YteieinhgdjjdoaaChecked
import Derived.Shelf.Vars
import Derived.KernelRfl
import Derived.ProofKit
import Derived.OpenShut
import Derived.ChangeArms
import Derived.ChangeSlices
import Derived.Test.YteieinhgdjjdoaaZd05
import Derived.Test.YteieinhgdjjdoaaZd09
set_option linter.unusedSectionVars false
set_option linter.unusedVariables false
set_option linter.unusedSimpArgs false
namespace Go.Proofs.Yteieinhgdjjdoaa
open Go.RowKit
set_option maxRecDepth 8000
set_option maxHeartbeats 8000000 in
theorem crossStrictH (p : Prg) (g : List Int) (l : List Pck) : HFn Try.prog 7 [prgH p, .sl (ints g), .sl (pcks l)] (.v (.bool true)) := by
  refine HCalls_body (fn := Try.f7) 54 [6] (by kernel_rfl) rfl (by kernel_rfl) (HW.run 400 (by kernel_rfl) ?_)
  simp (config := { decide := true }) only [go_sem, Int.reduceToNat, Nat.reduceAdd, Nat.reduceSub, Nat.reduceMul, Nat.reduceBEq, reduceIte, reduceCtorEq]
  refine callX_nm (lawHead) rfl rfl ?_
  simp (config := { decide := true }) only [go_sem, Int.reduceToNat, Nat.reduceAdd, Nat.reduceSub, Nat.reduceMul, Nat.reduceBEq, reduceIte, reduceCtorEq]
  refine callX_nm (lawGreat14 p l g) rfl rfl ?_
  cases hG : great14 p l g with
  | true =>
    simp (config := { decide := true }) only [go_sem, Int.reduceToNat, Nat.reduceAdd, Nat.reduceSub, Nat.reduceMul, Nat.reduceBEq, reduceIte, reduceCtorEq]
  | false =>
    obtain ⟨hp, h4, hl, hg⟩ := great14_ok hG
    simp (config := { decide := true }) only [go_sem, Int.reduceToNat, Nat.reduceAdd, Nat.reduceSub, Nat.reduceMul, Nat.reduceBEq, reduceIte, reduceCtorEq]
    refine callX_nm (refStrict p l hp (by omega)) rfl rfl ?_
    have hw := strict_len (p := p) (l := l)
    cases hS : strictF p (beginS p) [] l with
    | none => simp (config := { decide := true }) only [go_sem, Int.reduceToNat, Nat.reduceAdd, Nat.reduceSub, Nat.reduceMul, Nat.reduceBEq, reduceIte, reduceCtorEq, Option.getD_none, Option.isSome_none]
    | some w =>
      rw [hS, Option.getD_some] at hw
      obtain ⟨w', e, hr, hc⟩ := strict_law hp l _ [] w begin_right begin_empty hS
      rw [List.nil_append] at e
      subst e
      have hC := crossCross p w hp (by omega)
      rw [crossF_eq, if_pos hr, hc, List.foldl_nil, Option.getD_some, Option.isSome_some] at hC
      have hR := crossRaise p g w hp (by omega) (by omega)
      have hf : freeB p g (beginS p) w = true := by unfold freeB; rw [hc]; rfl
      rw [raiseF_eq, hr, hf, Bool.true_and, if_pos rfl, Option.getD_some, Option.isSome_some] at hR
      simp (config := { decide := true }) only [go_sem, Int.reduceToNat, Nat.reduceAdd, Nat.reduceSub, Nat.reduceMul, Nat.reduceBEq, reduceIte, reduceCtorEq, Option.getD_some, Option.isSome_some]
      refine callX_fn 3 (hC) (by simp only [go_sem]) (by simp only [go_sem]) ?_
      simp (config := { decide := true }) only [go_sem, Int.reduceToNat, Nat.reduceAdd, Nat.reduceSub, Nat.reduceMul, Nat.reduceBEq, reduceIte, reduceCtorEq]
      refine callX_fn 3 (hR) (by simp only [go_sem]) (by simp only [go_sem]) ?_
      simp (config := { decide := true }) only [go_sem, Int.reduceToNat, Nat.reduceAdd, Nat.reduceSub, Nat.reduceMul, Nat.reduceBEq, reduceIte, reduceCtorEq]
end Go.Proofs.Yteieinhgdjjdoaa
namespace Go.Proofs.Yteieinhgdjjdoaa
open Go.RowKit
set_option maxRecDepth 8000
theorem rowOwn : ownKnob Try.prog.godebug = none := by kernel_rfl
theorem lt_of_cell {W : World} {b : Nat} {v : Value} (hm : W.cell? ⟨b, 0, none⟩ = some v) : b < W.heap.size := by
  unfold World.cell? at hm
  simp only at hm
  cases hh : W.heap[b]? with
  | none => rw [hh] at hm; simp at hm
  | some o => exact (Array.getElem?_eq_some_iff.1 hh).1
def Ifcs (W : World) : Prop := ∀ b, globI b = true → ∃ v, W.cell? ⟨b, 0, none⟩ = some v ∧ (v = .nilIface ∨ ∃ t p, v = .iface t p)
theorem noIfc (W : World) : Ifcs W := fun b hb => by simp [globI] at hb
theorem globs_of {W : World} (h : W.ShapedOpen Try.prog) (hI : Ifcs W) : Globs (fun b => b < W.heap.size) W := by
  refine ⟨fun b hb => ?_, fun b hb => ?_⟩
  · simp [globB] at hb
  · obtain ⟨v, hv, hv'⟩ := hI b hb
    exact ⟨lt_of_cell hv, v, hv, hv'⟩
theorem HFn.below {f : FuncId} {args : List HV} {x : Value} {W : World} (h : HFn Try.prog f args (.v x)) (hsh : W.ShapedOpen Try.prog) (hI : Ifcs W) (vals : List Value) (ha : RL (fun b => b < W.heap.size) [] W args vals []) :
    Calls Try.prog f vals.toArray W fun e W' => e = .returned x ∧ Below W.heap.size W W' := by
  refine Calls.mono (h.2 _ [] _ W vals (HInv.empty (fun _ h => h) (globs_of hsh hI)) ha) ?_
  rintro e w' ⟨v, r, H', Z', G', FP', fr, rfl, rfl, hlen, hi', hr, hnd, hfr1, hfr2, hG, hE⟩
  simp only [RV] at hr
  obtain ⟨_, rfl⟩ := hr
  exact ⟨rfl, ⟨hE.os, hE.tape, hE.output, hE.size, fun b hb => hE.keep b hb (by simp)⟩⟩
end Go.Proofs.Yteieinhgdjjdoaa
namespace Go.Proofs.Yteieinhgdjjdoaa
open Go.ChangeShapes Go.WideShapes Go.RowKit
set_option maxRecDepth 8000
def contF (ok : TypeId → Bool) (cell : TypeId → Nat) : List Field → Nat → Nat → Bool
  | [], o, tot => o == tot
  | f :: fs, o, tot => f.offset == o && ok f.type && contF ok cell fs (o + cell f.type) tot
def plainT (P : Program) : Nat → TypeId → Bool
  | 0, _ => false
  | n + 1, t => match P.underlying t with
    | some .bool => true
    | some (.int _) => true
    | some .string => true
    | some (.slice e) => decide (0 < P.cellsOf e) && plainT P n e
    | some (.struct fs) => contF (plainT P n) P.cellsOf fs.toList 0 (P.cellsOf t)
    | some (.array m e) => decide (P.cellsOf t = m * P.cellsOf e) && plainT P n e
    | _ => false
def ShpF (S : TypeId → List HV → Prop) : List Field → List HV → Prop
  | [], hs => hs = []
  | f :: fs, hs => ∃ a b, hs = a ++ b ∧ S f.type a ∧ ShpF S fs b
def Shp (P : Program) : Nat → TypeId → List HV → Prop
  | 0, _, _ => False
  | n + 1, t, hs => match P.underlying t with
    | some .bool => ∃ b, hs = [.v (.bool b)]
    | some (.int k) => ∃ x, (Lit.int k x).wf = true ∧ hs = [.v (.int k x)]
    | some .string => ∃ s : List UInt8, s.length ≤ maxLen ∧ hs = [.v (str s)]
    | some (.slice e) => ∃ rows : List (List HV), rows.length ≤ maxLen ∧ hs = [.sl rows] ∧ ∀ r ∈ rows, Shp P n e r
    | some (.struct fs) => ShpF (Shp P n) fs.toList hs
    | some (.array m e) => ∃ rows : List (List HV), rows.length = m ∧ hs = rows.flatten ∧ ∀ r ∈ rows, Shp P n e r
    | _ => False
section
variable {H : Type} {enc : TypeId × Value → H} {P : Program} {w : World} {base : Nat} {sp : Nat → Bool} {held : Bool} {Z : Nat → Prop}
def Ones (cs : List Value) : Prop := ∀ c ∈ cs, c.oneCell' = true
theorem RC_of : ∀ (hs : List HV) (cs : List Value) (b k : Nat), RL Z [] w hs cs [] → Ones cs → (∀ i c, cs[i]? = some c → w.cell? ⟨b, k + i, none⟩ = some c) → RC Z [] w hs b k []
  | [], cs, b, k, h, _, _ => by simp [RC]
  | x :: hs, cs, b, k, h, h1, hc => by
    simp only [RL] at h
    obtain ⟨y, ys, f1, f2, rfl, hf, hv, ht⟩ := h
    obtain ⟨rfl, rfl⟩ := List.append_eq_nil_iff.1 hf.symm
    simp only [RC]
    refine ⟨y, [], [], rfl, by simpa using hc 0 y rfl, h1 y (by simp), hv, RC_of hs ys b (k + 1) ht (fun c hc => h1 c (by simp [hc])) fun i c hi => ?_⟩
    have := hc (i + 1) c (by simpa using hi)
    rw [show k + 1 + i = k + (i + 1) by omega]; exact this
theorem RR_of {m : Nat} : ∀ (rows : List (List HV)) (b k : Nat), (∀ r ∈ rows, r.length = m) → (∀ i r, rows[i]? = some r → RC Z [] w r b (k + i * m) []) → RR Z [] w rows b k []
  | [], b, k, _, _ => by simp [RR]
  | r :: rows, b, k, hm, h => by
    simp only [RR]
    refine ⟨[], [], rfl, by simpa using h 0 r rfl, ?_⟩
    rw [hm r (by simp)]
    refine RR_of rows b (k + m) (fun r hr => hm r (by simp [hr])) fun i r hi => ?_
    have := h (i + 1) r (by simpa using hi)
    rw [show k + m + i * m = k + (i + 1) * m by rw [Nat.add_mul]; omega]; exact this
theorem RL_one {h : HV} {y : Value} (hv : RV Z [] w h y []) : RL Z [] w [h] [y] [] := by
  simp only [RL]; exact ⟨y, [], [], [], rfl, rfl, hv, rfl, rfl⟩
theorem cells?_at {a : Addr} {k : Nat} {cs : List Value} (h : w.cells? base a k = some cs) : cs.length = k ∧ ∀ i c, cs[i]? = some c → w.cell? (a.add i) = some c := by
  obtain ⟨_, h2, h3⟩ := World.cells?_some h
  refine ⟨h2, fun i c hi => ?_⟩
  have hlt := (List.getElem?_eq_some_iff.1 hi).1
  have := h3 i (by omega)
  rw [← hi]; exact this
theorem choose_rows {p : Nat → List HV → Prop} : ∀ (n : Nat), (∀ i, i < n → ∃ r, p i r) → ∃ rows : List (List HV), rows.length = n ∧ ∀ i r, rows[i]? = some r → p i r
  | 0, _ => ⟨[], rfl, by simp⟩
  | n + 1, h => by
    obtain ⟨rows, h1, h2⟩ := choose_rows n fun i hi => h i (by omega)
    obtain ⟨r, hr⟩ := h n (by omega)
    refine ⟨rows ++ [r], by simp [h1], fun i x hx => ?_⟩
    rcases Nat.lt_or_ge i rows.length with hi | hi
    · rw [List.getElem?_append_left hi] at hx; exact h2 i x hx
    · rw [List.getElem?_append_right hi] at hx
      have : i - rows.length = 0 := by
        have := (List.getElem?_eq_some_iff.1 hx).1
        simp at this; omega
      rw [this] at hx
      obtain rfl : r = x := by simpa using hx
      rw [show i = n by omega]; exact hr
theorem contF_tot {ok : TypeId → Bool} {cell : TypeId → Nat} : ∀ (fs : List Field) (o tot : Nat), contF ok cell fs o tot = true → o ≤ tot
  | [], _, _, hc => by simp only [contF, beq_iff_eq] at hc; omega
  | f :: fs, o, tot, hc => by
    simp only [contF, Bool.and_eq_true, beq_iff_eq] at hc
    have := contF_tot fs _ tot hc.2
    omega
theorem contF_le {ok : TypeId → Bool} {cell : TypeId → Nat} : ∀ (fs : List Field) (o tot : Nat), contF ok cell fs o tot = true → ∀ (i : Nat) (g : Field), fs[i]? = some g → o ≤ g.offset
  | [], _, _, _, i, g, hg => by simp at hg
  | f :: fs, o, tot, hc, i, g, hg => by
    simp only [contF, Bool.and_eq_true, beq_iff_eq] at hc
    obtain ⟨⟨h1, h2⟩, h3⟩ := hc
    cases i with
    | zero => simp at hg; subst hg; omega
    | succ i =>
      have := contF_le fs _ tot h3 i g (by simpa using hg)
      omega
theorem struct_cells {S : TypeId → List HV → Prop} {ok : TypeId → Bool} {cell : TypeId → Nat} : ∀ (fs : List Field) (o : Nat) (cs : List Value), contF ok cell fs o (o + cs.length) = true →
    (∀ (i : Nat) (f : Field), fs[i]? = some f → ok f.type = true → ∃ hs, S f.type hs ∧ RL Z [] w hs ((cs.drop (f.offset - o)).take (cell f.type)) [] ∧ Ones ((cs.drop (f.offset - o)).take (cell f.type))) →
    ∃ hs, ShpF S fs hs ∧ RL Z [] w hs cs [] ∧ Ones cs
  | [], o, cs, hc, _ => by
    simp only [contF, beq_iff_eq] at hc
    obtain rfl : cs = [] := List.length_eq_zero_iff.1 (by omega)
    exact ⟨[], rfl, by simp [RL], by simp [Ones]⟩
  | f :: fs, o, cs, hc, h => by
    simp only [contF, Bool.and_eq_true, beq_iff_eq] at hc
    obtain ⟨⟨h1, h2⟩, h3⟩ := hc
    obtain ⟨a, sa, ra, oa⟩ := h 0 f rfl h2
    rw [h1, Nat.sub_self, List.drop_zero] at ra oa
    have hle : cell f.type ≤ cs.length := by
      have := contF_tot fs _ _ h3
      omega
    have hlen : o + cs.length = o + cell f.type + (cs.drop (cell f.type)).length := by rw [List.length_drop]; omega
    rw [hlen] at h3
    obtain ⟨b, sb, rb, ob⟩ := struct_cells fs (o + cell f.type) (cs.drop (cell f.type)) h3 fun i g hg hok => by
      have hi := contF_le fs _ _ h3 i g hg
      obtain ⟨hs, k1, k2, k3⟩ := h (i + 1) g (by simpa using hg) hok
      have e : (cs.drop (cell f.type)).drop (g.offset - (o + cell f.type)) = cs.drop (g.offset - o) := by
        rw [List.drop_drop]; congr 1; omega
      rw [e]
      exact ⟨hs, k1, k2, k3⟩
    refine ⟨a ++ b, ⟨a, b, rfl, sa, sb⟩, ?_, ?_⟩
    · have := (RL_append (Z := Z) (G := []) (w := w) a b cs []).2 ⟨cs.take (cell f.type), cs.drop (cell f.type), [], [], by simp, rfl, ra, rb⟩
      exact this
    · intro c hc
      rw [← List.take_append_drop (cell f.type) cs] at hc
      rcases List.mem_append.1 hc with h | h
      · exact oa c h
      · exact ob c h
theorem array_cells {S : List HV → Prop} {k : Nat} : ∀ (m : Nat) (cs : List Value), cs.length = m * k → (∀ i, i < m → ∃ hs, S hs ∧ RL Z [] w hs ((cs.drop (i * k)).take k) [] ∧ Ones ((cs.drop (i * k)).take k)) →
    ∃ rows : List (List HV), rows.length = m ∧ (∀ r ∈ rows, S r) ∧ RL Z [] w rows.flatten cs [] ∧ Ones cs
  | 0, cs, hl, _ => by
    obtain rfl : cs = [] := List.length_eq_zero_iff.1 (by omega)
    exact ⟨[], rfl, by simp, by simp [RL], by simp [Ones]⟩
  | m + 1, cs, hl, h => by
    obtain ⟨a, sa, ra, oa⟩ := h 0 (by omega)
    simp only [Nat.zero_mul, List.drop_zero] at ra oa
    have hk : k ≤ cs.length := by rw [hl, Nat.add_mul]; omega
    obtain ⟨rows, h1, h2, h3, h4⟩ := array_cells (k := k) m (cs.drop k) (by rw [List.length_drop, hl, Nat.add_mul]; omega) fun i hi => by
      obtain ⟨hs, k1, k2, k3⟩ := h (i + 1) (by omega)
      have e : (cs.drop k).drop (i * k) = cs.drop ((i + 1) * k) := by
        rw [List.drop_drop]; congr 1; rw [Nat.add_mul]; omega
      rw [e]; exact ⟨hs, k1, k2, k3⟩
    refine ⟨a :: rows, by simp [h1], ?_, ?_, ?_⟩
    · intro r hr
      rcases List.mem_cons.1 hr with rfl | hr
      · exact sa
      · exact h2 r hr
    · have := (RL_append (Z := Z) (G := []) (w := w) a rows.flatten cs []).2 ⟨cs.take k, cs.drop k, [], [], by simp, rfl, ra, h3⟩
      simpa using this
    · intro c hc
      rw [← List.take_append_drop k cs] at hc
      rcases List.mem_append.1 hc with h | h
      · exact oa c h
      · exact h4 c h
theorem open_cells (hZ : ∀ b, b < w.heap.size → Z b) : ∀ (n : Nat) (t : TypeId) (cs : List Value) (x : DataW H × List MemPlace) (fuel : Nat), plainT P n t = true → DataW.trod enc P w base sp held fuel t cs = some x →
    ∃ hs, Shp P n t hs ∧ RL Z [] w hs cs [] ∧ Ones cs := by
  intro n
  induction n with
  | zero => intro t cs x fuel h; simp [plainT] at h
  | succ n ih =>
    intro t cs x fuel hp hx
    unfold plainT at hp
    unfold Shp
    cases ht : P.underlying t with
    | none => rw [ht] at hp; simp at hp
    | some T =>
      rw [ht] at hp
      cases T with
      | bool =>
        obtain ⟨b, rfl, _⟩ := DataW.trod_bool ht hx
        exact ⟨_, ⟨b, rfl⟩, RL_one (by simp [RV]), by simp [Ones, Value.oneCell']⟩
      | int k =>
        obtain ⟨m, rfl, _, hw⟩ := DataW.trod_int ht hx
        exact ⟨_, ⟨m, hw, rfl⟩, RL_one (by simp [RV]), by simp [Ones, Value.oneCell']⟩
      | string =>
        obtain ⟨s, rfl, _, hw⟩ := DataW.trod_string ht hx
        refine ⟨_, ⟨s.data.toList, by rw [Array.length_toList]; exact hw, rfl⟩, RL_one (by simp [RV, str]), by simp [Ones, Value.oneCell']⟩
      | slice e =>
        simp only [Bool.and_eq_true, decide_eq_true_eq] at hp
        rcases DataW.trod_slice ht hx with ⟨rfl, _⟩ | ⟨a, len, cap, elems, rest, m, _, rfl, _, hb, hl, hm, hlen, hel, _, _⟩
        · refine ⟨_, ⟨[], Nat.zero_le _, rfl, by simp⟩, RL_one ?_, by simp [Ones, Value.oneCell']⟩
          simp only [RV]
          exact ⟨trivial, none, 0, rfl, Nat.zero_le _, Nat.zero_le _, .inl trivial⟩
        · have each : ∀ i, i < len → ∃ r, Shp P n e r ∧ r.length = P.cellsOf e ∧ RC Z [] w r a.block (a.off + i * P.cellsOf e) [] ∧ (i = 0 → a.spot = none) ∧ a.block < w.heap.size := by
            intro i hi
            have h1 := hel i hi
            have hel' : i < elems.length := by omega
            rw [List.getElem?_eq_getElem hel', Option.bind_eq_some_iff] at h1
            obtain ⟨ci, hci, hti⟩ := h1
            obtain ⟨r, sr, rr, o1⟩ := ih e ci _ m hp.2 hti
            obtain ⟨lc, hcell⟩ := cells?_at hci
            have cb : ∀ j c, ci[j]? = some c → w.cell? ((a.add (i * P.cellsOf e)).add j) = some c := hcell
            have h0 : ∃ c, w.cell? (a.add (i * P.cellsOf e)) = some c := by
              have : 0 < ci.length := by omega
              refine ⟨ci[0], ?_⟩
              have := hcell 0 ci[0] (List.getElem?_eq_getElem this)
              simpa [Addr.add] using this
            obtain ⟨c0, h0⟩ := h0
            have hsp : (a.add (i * P.cellsOf e)).spot = none ∧ a.block < w.heap.size := by
              unfold World.cell? at h0
              have hblk0 : (a.add (i * P.cellsOf e)).block = a.block := by simp only [Addr.add]; split <;> rfl
              rw [hblk0] at h0
              cases hh : w.heap[a.block]? with
              | none => rw [hh] at h0; simp at h0
              | some ob =>
                rw [hh] at h0
                refine ⟨?_, (Array.getElem?_eq_some_iff.1 hh).1⟩
                cases ob <;> simp at h0
                exact h0.1
            have hadd : ∀ j, (a.add (i * P.cellsOf e)).add j = ⟨a.block, a.off + i * P.cellsOf e + j, none⟩ := by
              intro j
              have e1 : a.add (i * P.cellsOf e) = ⟨a.block, a.off + i * P.cellsOf e, none⟩ := by
                have h2 := hsp.1
                unfold Addr.add at h2 ⊢
                split
                · rename_i h3
                  rw [if_pos h3] at h2
                  rw [h3]
                  cases a; simp at h2 ⊢; exact h2
                · rfl
              rw [e1]
              unfold Addr.add
              split
              · rename_i h3; rw [h3]; rfl
              · rfl
            refine ⟨r, sr, by have := RL_length (Z := Z) (G := []) (w := w) r ci [] rr; omega, RC_of r ci _ _ rr o1 (fun j c hj => by rw [← hadd]; exact cb j c hj), ?_, hsp.2⟩
            rintro rfl
            have := hsp.1
            rw [Nat.zero_mul] at this
            simpa [Addr.add] using this
          obtain ⟨rows, r1, r2⟩ := choose_rows len each
          refine ⟨_, ⟨rows, by omega, rfl, ?_⟩, RL_one ?_, by simp [Ones, Value.oneCell']⟩
          · intro r hr
            obtain ⟨i, hi⟩ := List.getElem?_of_mem hr
            exact (r2 i r hi).1
          · simp only [RV]
            refine ⟨trivial, some a, cap, by rw [r1], by omega, hm, ?_⟩
            by_cases h0 : rows = []
            · exact .inl h0
            · right
              obtain ⟨r, hi⟩ : ∃ r, rows[0]? = some r := by
                cases rows with
                | nil => exact absurd rfl h0
                | cons r _ => exact ⟨r, rfl⟩
              obtain ⟨_, _, _, q1, q2⟩ := r2 0 r hi
              replace q1 := q1 rfl
              have hlen' : ∀ r ∈ rows, r.length = P.cellsOf e := by
                intro r hr
                obtain ⟨i, hi⟩ := List.getElem?_of_mem hr
                exact (r2 i r hi).2.1
              refine ⟨a.block, a.off, by cases a; simp at q1 ⊢; exact q1, hZ _ q2, ?_, RR_of rows _ _ hlen' fun i r hi => (r2 i r hi).2.2.1⟩
              intro r hr
              rw [hlen' r hr]
              unfold rowLen
              cases rows with
              | nil => simp at hr
              | cons r0 _ => exact (hlen' r0 (by simp)).symm
      | struct fs =>
        obtain ⟨xs, m, _, _, hl, hlen, hf⟩ := DataW.trod_struct ht hx
        simp only at hp
        refine struct_cells (Z := Z) (w := w) fs.toList 0 cs (by rw [hl, Nat.zero_add]; exact hp) fun i f hi hok => ?_
        have h1 := hf i f (by simpa using hi)
        have hlt : i < xs.length := by
          have := (List.getElem?_eq_some_iff.1 hi).1
          simp at this; omega
        rw [List.getElem?_eq_getElem hlt] at h1
        obtain ⟨hs, k1, k2, k3⟩ := ih f.type _ _ m hok h1
        rw [Nat.sub_zero]
        exact ⟨hs, k1, k2, k3⟩
      | array m e =>
        simp only [Bool.and_eq_true, decide_eq_true_eq] at hp
        obtain ⟨xs, k, _, _, hl, hlen, hf⟩ := DataW.trod_array ht hx
        obtain ⟨rows, h1, h2, h3, h4⟩ := array_cells (Z := Z) (w := w) (S := Shp P n e) m cs (by rw [hl]; exact hp.1) fun i hi => by
          have := hf i hi
          rw [List.getElem?_eq_getElem (show i < xs.length by omega)] at this
          exact ih e _ _ k hp.2 this
        exact ⟨_, ⟨rows, h1, rfl, h2⟩, h3, h4⟩
      | _ => simp at hp
theorem rows_map {α : Type} {p : α → List HV} : ∀ (rows : List (List HV)), (∀ r ∈ rows, ∃ a, r = p a) → ∃ l : List α, rows = l.map p
  | [], _ => ⟨[], rfl⟩
  | r :: rows, h => by
    obtain ⟨a, rfl⟩ := h r (by simp)
    obtain ⟨l, rfl⟩ := rows_map rows fun r hr => h r (by simp [hr])
    exact ⟨a :: l, rfl⟩
theorem open_sl (hZ : ∀ b, b < w.heap.size → Z b) {n : Nat} {r : Reach} {b0 : Nat} {t e : TypeId} {v : Value} {d : DataW H} {ps : List MemPlace} (ht : P.underlying t = some (.slice e)) (hp : plainT P (n + 1) t = true) (hval : Value.okWide P w r b0 t v) (hd : DataW.Trod enc P w base sp held t v d ps) :
    ∃ rows : List (List HV), rows.length ≤ maxLen ∧ RV Z [] w (.sl rows) v [] ∧ ∀ r ∈ rows, Shp P n e r := by
  obtain ⟨a, len, cap, rfl⟩ := okWide_slice ht hval
  obtain ⟨fuel, hf⟩ := hd
  obtain ⟨hs, h1, h2, _⟩ := open_cells (Z := Z) hZ (n + 1) t _ _ fuel hp hf
  unfold Shp at h1
  rw [ht] at h1
  obtain ⟨rows, k1, rfl, k2⟩ := h1
  refine ⟨rows, k1, ?_, k2⟩
  have h3 : RL Z [] w [.sl rows] [.slice a len cap] [] := h2
  simp only [RL] at h3
  obtain ⟨y, ys, f1, f2, e1, e2, hv, _⟩ := h3
  obtain ⟨rfl, _⟩ := List.append_eq_nil_iff.1 e2.symm
  cases e1; exact hv
theorem open_ag (hZ : ∀ b, b < w.heap.size → Z b) {n : Nat} {r : Reach} {b0 : Nat} {t : TypeId} {fs : Array Field} {v : Value} {d : DataW H} {ps : List MemPlace} (ht : P.underlying t = some (.struct fs)) (hp : plainT P (n + 1) t = true) (hval : Value.okWide P w r b0 t v) (hd : DataW.Trod enc P w base sp held t v d ps) :
    ∃ hs : List HV, RV Z [] w (.ag hs) v [] ∧ ShpF (Shp P n) fs.toList hs := by
  obtain ⟨cs, rfl, _⟩ := okWide_struct ht hval
  obtain ⟨fuel, hf⟩ := hd
  obtain ⟨hs, h1, h2, _⟩ := open_cells (Z := Z) hZ (n + 1) t _ _ fuel hp hf
  unfold Shp at h1
  rw [ht] at h1
  refine ⟨hs, ?_, h1⟩
  simp only [RV]
  exact ⟨cs, rfl, h2⟩
theorem shp_int {n : Nat} {t : TypeId} {k : IntKind} {hs : List HV} (ht : P.underlying t = some (.int k)) (h : Shp P (n + 1) t hs) : ∃ x, (Lit.int k x).wf = true ∧ hs = [.v (.int k x)] := by
  unfold Shp at h; rw [ht] at h; exact h
theorem shp_bool {n : Nat} {t : TypeId} {hs : List HV} (ht : P.underlying t = some .bool) (h : Shp P (n + 1) t hs) : ∃ b, hs = [.v (.bool b)] := by
  unfold Shp at h; rw [ht] at h; exact h
theorem shp_sl {n : Nat} {t e : TypeId} {hs : List HV} (ht : P.underlying t = some (.slice e)) (h : Shp P (n + 1) t hs) : ∃ rows : List (List HV), rows.length ≤ maxLen ∧ hs = [.sl rows] ∧ ∀ r ∈ rows, Shp P n e r := by
  unfold Shp at h; rw [ht] at h; exact h
theorem shp_ag {n : Nat} {t : TypeId} {fs : Array Field} {hs : List HV} (ht : P.underlying t = some (.struct fs)) (h : Shp P (n + 1) t hs) : ShpF (Shp P n) fs.toList hs := by
  unfold Shp at h; rw [ht] at h; exact h
end
end Go.Proofs.Yteieinhgdjjdoaa
namespace Go.Proofs.Yteieinhgdjjdoaa
open Go.ChangeShapes Go.WideShapes Go.RowKit
set_option maxRecDepth 8000
section
variable {H : Type} {enc : TypeId × Value → H} {w : World} {base : Nat} {sp : Nat → Bool} {held : Bool} {Z : Nat → Prop}
theorem open_ints (hZ : ∀ b, b < w.heap.size → Z b) {r : Reach} {b0 : Nat} {v : Value} {d : DataW H} {ps : List MemPlace} (hval : Value.okWide Try.prog w r b0 22 v) (hd : DataW.Trod enc Try.prog w base sp held 22 v d ps) :
    ∃ l : List Int, RV Z [] w (.sl (ints l)) v [] := by
  obtain ⟨rows, _, h1, h2⟩ := open_sl (Z := Z) (n := 1) hZ Try.underlying22 (by kernel_rfl) hval hd
  obtain ⟨l, rfl⟩ := rows_map (p := irow) rows fun r hr => by
    obtain ⟨x, _, rfl⟩ := shp_int Try.underlying3 (h2 r hr)
    exact ⟨x, rfl⟩
  exact ⟨l, h1⟩
theorem open_pcks (hZ : ∀ b, b < w.heap.size → Z b) {r : Reach} {b0 : Nat} {v : Value} {d : DataW H} {ps : List MemPlace} (hval : Value.okWide Try.prog w r b0 26 v) (hd : DataW.Trod enc Try.prog w base sp held 26 v d ps) :
    ∃ l : List Pck, RV Z [] w (.sl (pcks l)) v [] := by
  obtain ⟨rows, _, h1, h2⟩ := open_sl (Z := Z) (n := 2) hZ Try.underlying26 (by kernel_rfl) hval hd
  obtain ⟨l, rfl⟩ := rows_map (p := prow) rows fun r hr => by
    obtain ⟨a, b, rfl, ha, c, d, rfl, hc, rfl⟩ := shp_ag Try.underlying62 (h2 r hr)
    obtain ⟨x, _, rfl⟩ := shp_int Try.underlying3 ha
    obtain ⟨y, rfl⟩ := shp_bool Try.underlying4 hc
    exact ⟨⟨x, y⟩, rfl⟩
  exact ⟨l, h1⟩
theorem open_prg (hZ : ∀ b, b < w.heap.size → Z b) {r : Reach} {b0 : Nat} {v : Value} {d : DataW H} {ps : List MemPlace} (hval : Value.okWide Try.prog w r b0 25 v) (hd : DataW.Trod enc Try.prog w base sp held 25 v d ps) :
    ∃ p : Prg, RV Z [] w (prgH p) v [] := by
  obtain ⟨hs, h1, a, b, rfl, ha, c, d, rfl, hc, rfl⟩ := open_ag (Z := Z) (n := 4) hZ Try.underlying25 (by kernel_rfl) hval hd
  obtain ⟨rows, _, rfl, hr⟩ := shp_sl Try.underlying22 ha
  obtain ⟨l, rfl⟩ := rows_map (p := irow) rows fun r h => by
    obtain ⟨x, _, rfl⟩ := shp_int Try.underlying3 (hr r h)
    exact ⟨x, rfl⟩
  obtain ⟨rows, _, rfl, hq⟩ := shp_sl Try.underlying23 hc
  obtain ⟨m, rfl⟩ := rows_map (p := trow) rows fun r h => by
    obtain ⟨rs, _, rfl, hs⟩ := shp_sl Try.underlying45 (hq r h)
    obtain ⟨m, rfl⟩ := rows_map (p := strow) rs fun r h => by
      obtain ⟨a1, _, rfl, h1, a2, _, rfl, h2, a3, _, rfl, h3, a4, _, rfl, h4, a5, _, rfl, h5, rfl⟩ := shp_ag Try.underlying44 (hs r h)
      obtain ⟨x1, _, rfl⟩ := shp_int Try.underlying3 h1
      obtain ⟨x2, _, rfl⟩ := shp_int Try.underlying3 h2
      obtain ⟨x3, _, rfl⟩ := shp_int Try.underlying3 h3
      obtain ⟨x4, _, rfl⟩ := shp_int Try.underlying3 h4
      obtain ⟨x5, _, rfl⟩ := shp_int Try.underlying3 h5
      exact ⟨⟨x1, x2, x3, x4, x5⟩, rfl⟩
    exact ⟨m, rfl⟩
  exact ⟨⟨l, m⟩, h1⟩
end
theorem laidOut : laidOutB Try.prog = true := by kernel_rfl
theorem RL_cons0 {Z : Nat → Prop} {G : List (Option OG)} {w : World} {a : HV} {y : Value} {bs : List HV} {ys : List Value} (h : RV Z G w a y []) (t : RL Z G w bs ys []) : RL Z G w (a :: bs) (y :: ys) [] := by
  simp only [RL]; exact ⟨y, ys, [], [], rfl, rfl, h, t⟩
theorem RL_nil0 {Z : Nat → Prop} {G : List (Option OG)} {w : World} : RL Z G w [] [] [] := by simp [RL]
end Go.Proofs.Yteieinhgdjjdoaa
namespace Go.Proofs.Yteieinhgdjjdoaa
set_option maxRecDepth 8000
def fpos (g : List Int) (a i : Nat) : Nat := i + countB g a i
def spos (g : List Int) (a i : Nat) : Nat := i + countB g a (i + 1)
theorem countB_next (g : List Int) (a i : Nat) : countB g a (i + 1) = countB g a i + (if hasB g ((a + i : Nat) : Int) = true then 1 else 0) := by
  rw [countB, show (a : Int) + (i : Int) = ((a + i : Nat) : Int) by omega]
theorem spos_yes {g : List Int} {a i : Nat} (h : hasB g ((a + i : Nat) : Int) = true) : spos g a i = fpos g a i + 1 := by
  unfold spos fpos; rw [countB_next, if_pos h]; omega
theorem spos_no {g : List Int} {a i : Nat} (h : hasB g ((a + i : Nat) : Int) = false) : spos g a i = fpos g a i := by
  unfold spos fpos; rw [countB_next, if_neg (by rw [h]; simp)]; omega
theorem fpos_next (g : List Int) (a i : Nat) : fpos g a (i + 1) = spos g a i + 1 := by unfold spos fpos; omega
theorem fpos_lt {g : List Int} {a i j : Nat} (h : i < j) : spos g a i < fpos g a j := by
  unfold spos fpos
  have := countB_mono g a (show i + 1 ≤ j by omega); omega
theorem fpos_le {g : List Int} {a i : Nat} : fpos g a i ≤ spos g a i := by
  unfold spos fpos
  have := countB_mono g a (show i ≤ i + 1 by omega); omega
theorem fpos_mono {g : List Int} {a i j : Nat} (h : i < j) : fpos g a i < fpos g a j := Nat.lt_of_le_of_lt fpos_le (fpos_lt h)
section
variable {p : Prg} {g : List Int}
theorem insP_thr {t : Nat} {l : List Stp} (hl : p.thr[t]? = some l) : (insP p g).thr[t]? = some (insT g (startB p.thr t) l) := by
  have ht := (List.getElem?_eq_some_iff.1 hl).1
  show (insF g p.thr p.thr.length)[t]? = _
  rw [insF_get g p.thr _ t ht, hl, Option.getD_some]
theorem insP_len : (insP p g).thr.length = p.thr.length := insF_len g p.thr _
theorem insR_split {a i : Nat} {l : List Stp} {x : Stp} (hx : l[i]? = some x) : insR g a l = insR g a (l.take i) ++ ((if hasB g ((a + i : Nat) : Int) = true then [fnc] else []) ++ x :: insR g (a + i + 1) (l.drop (i + 1))) := by
  have hi := (List.getElem?_eq_some_iff.1 hx)
  obtain ⟨h1, h2⟩ := hi
  have e : l = l.take i ++ x :: l.drop (i + 1) := by
    rw [← h2, ← List.drop_eq_getElem_cons h1, List.take_append_drop]
  conv => lhs; rw [e]
  rw [insR_append, List.length_take, Nat.min_eq_left (by omega)]
  rfl
theorem insT_step {a i : Nat} {l : List Stp} {x : Stp} (hx : l[i]? = some x) : (insT g a l)[spos g a i]? = some (insStp g a x) := by
  have hi := (List.getElem?_eq_some_iff.1 hx).1
  have hlen := insR_len g a l i (by omega)
  unfold insT
  rw [List.getElem?_map, insR_split hx]
  by_cases h : hasB g ((a + i : Nat) : Int) = true
  · rw [if_pos h, spos_yes h, List.getElem?_append_right (by rw [hlen]; unfold fpos; omega), hlen]
    have : fpos g a i + 1 - (i + countB g a i) = 1 := by unfold fpos; omega
    rw [this]; rfl
  · rw [if_neg h, spos_no (by simpa using h), List.getElem?_append_right (by rw [hlen]; unfold fpos; omega), hlen]
    have : fpos g a i - (i + countB g a i) = 0 := by unfold fpos; omega
    rw [this]; rfl
theorem insT_fence {a i : Nat} {l : List Stp} (hi : i < l.length) (h : hasB g ((a + i : Nat) : Int) = true) : (insT g a l)[fpos g a i]? = some fnc := by
  have hx : l[i]? = some l[i] := List.getElem?_eq_getElem hi
  have hlen := insR_len g a l i (by omega)
  unfold insT
  rw [List.getElem?_map, insR_split hx, if_pos h, List.getElem?_append_right (by rw [hlen]; unfold fpos; omega), hlen]
  have : fpos g a i - (i + countB g a i) = 0 := by unfold fpos; omega
  rw [this]
  show some (insStp g a fnc) = some fnc
  unfold insStp fnc
  rw [if_neg (by decide)]
theorem insT_end {a : Nat} {l : List Stp} : (insT g a l).length = fpos g a l.length := insT_len g a l
theorem fence_yes {t i : Nat} {l : List Stp} (hl : p.thr[t]? = some l) (hi : i < l.length) (h : hasB g ((startB p.thr t + i : Nat) : Int) = true) : fenceB p g t ((fpos g (startB p.thr t) i : Nat) : Int) = true := by
  unfold fenceB
  rw [hl, Option.getD_some, List.any_eq_true]
  refine ⟨i, by simpa using hi, ?_⟩
  unfold fenceT
  rw [show ((startB p.thr t : Nat) : Int) + (i : Int) = ((startB p.thr t + i : Nat) : Int) by omega, h, Bool.true_and, decide_eq_true_eq]
  unfold fpos; omega
theorem fence_no {t i : Nat} {l : List Stp} (hl : p.thr[t]? = some l) : fenceB p g t ((spos g (startB p.thr t) i : Nat) : Int) = false := by
  unfold fenceB
  rw [List.any_eq_false]
  intro j hj hf
  unfold fenceT at hf
  rw [show ((startB p.thr t : Nat) : Int) + (j : Int) = ((startB p.thr t + j : Nat) : Int) by omega, Bool.and_eq_true, decide_eq_true_eq] at hf
  obtain ⟨h1, h2⟩ := hf
  have e : spos g (startB p.thr t) i = fpos g (startB p.thr t) j := by
    show _ = j + countB g (startB p.thr t) j
    omega
  rcases Nat.lt_trichotomy i j with c | c | c
  · have := fpos_lt (g := g) (a := startB p.thr t) c; omega
  · subst c; rw [spos_yes h1] at e; omega
  · have := fpos_mono (g := g) (a := startB p.thr t) c
    have := fpos_le (g := g) (a := startB p.thr t) (i := i); omega
def Pos (b : Bool) (g : List Int) (a n : Nat) (t : Thd) (c : Int) : Prop :=
  c = ((fpos g a t.pc.toNat : Nat) : Int) ∨ (b = true ∧ t.pc.toNat < n ∧ hasB g ((a + t.pc.toNat : Nat) : Int) = true ∧ t.buf = [] ∧ c = ((spos g a t.pc.toNat : Nat) : Int))
structure Sim (b : Bool) (p : Prg) (g : List Int) (s z : Sta) : Prop where
  mem : z.mem = s.mem
  len : z.ths.length = s.ths.length
  th : ∀ i t l, s.ths[i]? = some t → p.thr[i]? = some l → ∃ c : Int, z.ths[i]? = some { t with pc := c } ∧ Pos b g (startB p.thr i) l.length t c
theorem sim_begin : Sim false p g (beginS p) (beginS (insP p g)) := by
  refine ⟨rfl, by simp [beginS, insP_len], fun i t l ht hl => ?_⟩
  have h2 := insP_thr (g := g) hl
  simp only [beginS, List.getElem?_map, hl, Option.map_some, Option.some.injEq] at ht
  subst ht
  refine ⟨0, ?_, .inl rfl⟩
  simp [beginS, h2]
theorem Sim.set {b : Bool} {s z : Sta} {th c : Int} {m : List Int} {t : Thd} (h : Sim b p g s z) (ht : ∀ l, p.thr[th.toNat]? = some l → Pos b g (startB p.thr th.toNat) l.length t c) :
    Sim b p g (setTh s th m t) (setTh z th m { t with pc := c }) := by
  refine ⟨rfl, by simp [setTh, h.len], fun i u l hu hl => ?_⟩
  simp only [setTh] at hu ⊢
  by_cases e : th.toNat = i
  · subst e
    rw [List.getElem?_set] at hu ⊢
    rw [if_pos rfl] at hu ⊢
    split at hu
    · rename_i hlt
      cases hu
      rw [if_pos (by rw [h.len]; exact hlt)]
      exact ⟨c, rfl, ht l hl⟩
    · cases hu
  · rw [List.getElem?_set_ne e] at hu ⊢
    exact h.th i u l hu hl
theorem step_at {s z : Sta} {k : Pck} {l : List Stp} {x : Stp} {t : Thd} (hp : RightP p) (hk : k.dr = false) (h0 : 0 ≤ k.th) (hl : p.thr[k.th.toNat]? = some l) (hx : l[t.pc.toNat]? = some x)
    (hz : z.ths[k.th.toNat]? = some { t with pc := ((spos g (startB p.thr k.th.toNat) t.pc.toNat : Nat) : Int) }) (h1 : 0 ≤ t.pc) :
    stepW (insP p g) z k = match goW x z.mem t with
      | none => (z, false)
      | some r => (setTh z k.th r.1 { r.2 with pc := ((fpos g (startB p.thr k.th.toNat) r.2.pc.toNat : Nat) : Int) }, true) := by
  have hlt := (List.getElem?_eq_some_iff.1 hz).1
  have hT : thAt z k.th = { t with pc := ((spos g (startB p.thr k.th.toNat) t.pc.toNat : Nat) : Int) } := by unfold thAt; rw [hz]; rfl
  have hA : atS (insP p g) z k.th = some (insStp g (startB p.thr k.th.toNat) x) := by
    unfold atS
    rw [if_pos ⟨h0, by omega⟩, insP_thr hl, hT, Option.getD_some]
    simpa using insT_step hx
  rw [stepW_go hk ⟨h0, by omega⟩, hA, hT]
  dsimp only
  have e : ∀ y : Stp, y = insStp g (startB p.thr k.th.toNat) x → y.op = x.op ∧ y.reg = x.reg ∧ y.loc = x.loc ∧ y.n = x.n := by
    rintro y rfl
    unfold insStp
    split <;> exact ⟨rfl, rfl, rfl, rfl⟩
  obtain ⟨e1, e2, e3, e4⟩ := e _ rfl
  rw [goW_at e1 e2 e3 e4]
  cases hr : goW x z.mem t with
  | none => rfl
  | some r =>
    dsimp only [Option.map_some]
    have hpc := goW_pc hr
    have hX := hp.x _ l hl _ x hx
    have ej : jumpsB (insStp g (startB p.thr k.th.toNat) x) t.eq = jumpsB x t.eq := by unfold jumpsB; rw [e1]
    have : (if jumpsB (insStp g (startB p.thr k.th.toNat) x) t.eq = true then (insStp g (startB p.thr k.th.toNat) x).to else ((spos g (startB p.thr k.th.toNat) t.pc.toNat : Nat) : Int) + 1) = ((fpos g (startB p.thr k.th.toNat) r.2.pc.toNat : Nat) : Int) := by
      rw [ej, hpc]
      by_cases hj : jumpsB x t.eq = true
      · rw [if_pos hj, if_pos hj]
        have h8 : 8 ≤ x.op := by
          simp only [jumpsB, Bool.or_eq_true, Bool.and_eq_true, decide_eq_true_eq] at hj
          omega
        have := hX.to.1 h8
        unfold insStp fpos
        rw [if_pos h8]
        dsimp only
        omega
      · rw [if_neg hj, if_neg hj]
        have : (t.pc + 1).toNat = t.pc.toNat + 1 := by omega
        rw [this, fpos_next]; omega
    rw [this]
theorem step_fence {z : Sta} {k : Pck} {l : List Stp} {t : Thd} (hk : k.dr = false) (h0 : 0 ≤ k.th) (hl : p.thr[k.th.toNat]? = some l) (hi : t.pc.toNat < l.length) (hh : hasB g ((startB p.thr k.th.toNat + t.pc.toNat : Nat) : Int) = true)
    (hz : z.ths[k.th.toNat]? = some { t with pc := ((fpos g (startB p.thr k.th.toNat) t.pc.toNat : Nat) : Int) }) :
    stepW (insP p g) z k = if t.buf ≠ [] then (z, false) else (setTh z k.th z.mem { t with pc := ((spos g (startB p.thr k.th.toNat) t.pc.toNat : Nat) : Int) }, true) := by
  have hlt := (List.getElem?_eq_some_iff.1 hz).1
  have hT : thAt z k.th = { t with pc := ((fpos g (startB p.thr k.th.toNat) t.pc.toNat : Nat) : Int) } := by unfold thAt; rw [hz]; rfl
  have hA : atS (insP p g) z k.th = some fnc := by
    unfold atS
    rw [if_pos ⟨h0, by omega⟩, insP_thr hl, hT, Option.getD_some]
    simpa using insT_fence hi hh
  rw [stepW_go hk ⟨h0, by omega⟩, hA, hT]
  dsimp only
  have e5 : ((spos g (startB p.thr k.th.toNat) t.pc.toNat : Nat) : Int) = ((fpos g (startB p.thr k.th.toNat) t.pc.toNat : Nat) : Int) + 1 := by rw [spos_yes hh]; omega
  rw [e5]
  unfold goW
  by_cases hb : t.buf = []
  · simp [fnc, thStep, jumpsB, hb]
  · rw [if_pos ⟨hb, .inl rfl⟩, if_pos hb]
theorem step_drain {b : Bool} {s z : Sta} {k : Pck} (hs : RightS p s) (h : Sim b p g s z) (hk : k.dr = true) : (stepW (insP p g) z k).2 = (stepW p s k).2 ∧ ((stepW p s k).2 = true → Sim b p g (stepW p s k).1 (stepW (insP p g) z k).1) := by
  by_cases hin : 0 ≤ k.th ∧ k.th < s.ths.length
  · have hin' : 0 ≤ k.th ∧ k.th < z.ths.length := by rw [h.len]; exact hin
    have ht := thAt_get hin
    have hlen := hs.ths
    have hl : p.thr[k.th.toNat]? = some (p.thr[k.th.toNat]'(by omega)) := List.getElem?_eq_getElem (by omega)
    obtain ⟨c, hz, hP⟩ := h.th _ _ _ ht hl
    have hT : thAt z k.th = { thAt s k.th with pc := c } := by unfold thAt at hz ⊢; rw [hz]; rfl
    rw [stepW_dr hk hin, stepW_dr hk hin', hT, h.mem]
    dsimp only
    by_cases hd : (drainB (thAt s k.th).buf s.mem).2.2 = true
    · rw [if_pos hd, if_pos hd]
      refine ⟨rfl, fun _ => ?_⟩
      refine Sim.set (t := { thAt s k.th with buf := (drainB (thAt s k.th).buf s.mem).1 }) h fun l hl' => ?_
      rw [hl] at hl'; cases hl'
      rcases hP with hP | ⟨h1, h2, h3, h4, h5⟩
      · exact .inl hP
      · rw [h4] at hd; simp [drainB] at hd
    · rw [if_neg hd, if_neg hd]
      exact ⟨rfl, fun h => by cases h⟩
  · have hin' : ¬ (0 ≤ k.th ∧ k.th < z.ths.length) := by rw [h.len]; exact hin
    unfold stepW
    rw [if_pos hin, if_pos hin']
    exact ⟨rfl, fun h => by cases h⟩
theorem step_p {s : Sta} {k : Pck} {l : List Stp} {x : Stp} (hk : k.dr = false) (hin : 0 ≤ k.th ∧ k.th < s.ths.length) (hl : p.thr[k.th.toNat]? = some l) (hx : l[(thAt s k.th).pc.toNat]? = some x) :
    stepW p s k = match goW x s.mem (thAt s k.th) with
      | none => (s, false)
      | some r => (setTh s k.th r.1 r.2, true) := by
  have hA : atS p s k.th = some x := by
    unfold atS
    rw [if_pos hin, hl, Option.getD_some]; exact hx
  rw [stepW_go hk hin, hA] <;> rfl
theorem lower_sim (hp : RightP p) : ∀ (l : List Pck) (s z : Sta), RightS p s → Sim true p g s z → (runW (insP p g) z l).2.2 = true →
    (runW p s (lowL p (insP p g) g z l)).2.2 = true ∧ Sim true p g (runW p s (lowL p (insP p g) g z l)).1 (runW (insP p g) z l).1 ∧ freeB p g s (lowL p (insP p g) g z l) = true ∧ RightS p (runW p s (lowL p (insP p g) g z l)).1
  | [], s, z, hs, h, _ => ⟨rfl, h, rfl, hs⟩
  | k :: r, s, z, hs, h, hr => by
    rw [runW_ok, Bool.and_eq_true] at hr
    have hin := stepW_in' hr.1
    have hin' : 0 ≤ k.th ∧ k.th < s.ths.length := by rw [← h.len]; exact hin
    rw [runW_st hr.1, lowL]
    cases hk : k.dr with
    | true =>
      obtain ⟨h1, h2⟩ := step_drain (k := k) hs h hk
      have h3 : (stepW p s k).2 = true := by rw [← h1]; exact hr.1
      obtain ⟨i1, i2, i3, i4⟩ := lower_sim hp r _ _ (stepW_right hp hs) (h2 h3) hr.2
      rw [if_pos (.inl rfl), List.singleton_append, runW_ok, runW_st h3, freeB_cons, h3, i1, i3, hk]
      exact ⟨rfl, i2, by simp, i4⟩
    | false =>
      have ht := thAt_get hin'
      have hlen := hs.ths
      have hl : p.thr[k.th.toNat]? = some (p.thr[k.th.toNat]'(by omega)) := List.getElem?_eq_getElem (by omega)
      have hT := hs.t _ _ _ hl ht
      obtain ⟨c, hz, hP⟩ := h.th _ _ _ ht hl
      have hzT : thAt z k.th = { thAt s k.th with pc := c } := by unfold thAt at hz ⊢; rw [hz]; rfl
      generalize p.thr[k.th.toNat]'(by omega) = L at hl hT hP
      have atstep : ∀ x, L[(thAt s k.th).pc.toNat]? = some x → c = ((spos g (startB p.thr k.th.toNat) (thAt s k.th).pc.toNat : Nat) : Int) → (hasB g ((startB p.thr k.th.toNat + (thAt s k.th).pc.toNat : Nat) : Int) = true → (thAt s k.th).buf = []) →
          (runW p s ((if false = true ∨ fenceB p g k.th.toNat (thAt z k.th).pc = false then [k] else []) ++ lowL p (insP p g) g (stepW (insP p g) z k).1 r)).2.2 = true ∧
          Sim true p g (runW p s ((if false = true ∨ fenceB p g k.th.toNat (thAt z k.th).pc = false then [k] else []) ++ lowL p (insP p g) g (stepW (insP p g) z k).1 r)).1 (runW (insP p g) (stepW (insP p g) z k).1 r).1 ∧
          freeB p g s ((if false = true ∨ fenceB p g k.th.toNat (thAt z k.th).pc = false then [k] else []) ++ lowL p (insP p g) g (stepW (insP p g) z k).1 r) = true ∧
          RightS p (runW p s ((if false = true ∨ fenceB p g k.th.toNat (thAt z k.th).pc = false then [k] else []) ++ lowL p (insP p g) g (stepW (insP p g) z k).1 r)).1 := by
        rintro x hx rfl hb
        have hq := step_at (g := g) (s := s) hp hk hin.1 hl hx hz hT.pc.1
        have hpS := step_p hk hin' hl hx
        rw [h.mem] at hq
        have hno := fence_no (g := g) (i := (thAt s k.th).pc.toNat) hl
        rw [hzT]
        dsimp only
        rw [if_pos (.inr hno), List.singleton_append]
        cases hg : goW x s.mem (thAt s k.th) with
        | none => rw [hg] at hq; rw [hq] at hr; cases hr.1
        | some q =>
          rw [hg] at hq hpS
          dsimp only at hq hpS
          have h3 : (stepW p s k).2 = true := by rw [hpS]
          have hS : Sim true p g (stepW p s k).1 (stepW (insP p g) z k).1 := by
            rw [hq, hpS]
            exact h.set fun l' hl' => .inl rfl
          obtain ⟨i1, i2, i3, i4⟩ := lower_sim hp r _ _ (stepW_right hp hs) hS hr.2
          rw [runW_ok, runW_st h3, freeB_cons, h3, i1, i3]
          refine ⟨rfl, i2, ?_, i4⟩
          have hA : atS p s k.th = some x := by
            unfold atS
            rw [if_pos hin', hl, Option.getD_some]; exact hx
          rw [num_at hp hs hA, Bool.and_true, Bool.not_eq_true', Bool.and_eq_false_iff]
          cases hh : hasB g ((startB p.thr k.th.toNat + (thAt s k.th).pc.toNat : Nat) : Int) with
          | false => exact .inr rfl
          | true => left; simp [hb hh]
      by_cases hlt : (thAt s k.th).pc.toNat < L.length
      · have hx : L[(thAt s k.th).pc.toNat]? = some L[(thAt s k.th).pc.toNat] := List.getElem?_eq_getElem hlt
        cases hh : hasB g ((startB p.thr k.th.toNat + (thAt s k.th).pc.toNat : Nat) : Int) with
        | false =>
          rcases hP with hP | ⟨_, _, h3, _⟩
          · exact atstep _ hx (by rw [hP, spos_no hh]) (fun e => by rw [hh] at e; cases e)
          · rw [hh] at h3; cases h3
        | true =>
          rcases hP with hP | ⟨_, _, _, h4, h5⟩
          · subst hP
            have hf := step_fence (g := g) hk hin.1 hl hlt hh hz
            have hy := fence_yes (g := g) hl hlt hh
            rw [hzT]
            dsimp only
            rw [if_neg (by rw [hy]; simp), List.nil_append]
            by_cases hb : (thAt s k.th).buf ≠ []
            · rw [if_pos hb] at hf; rw [hf] at hr; cases hr.1
            · rw [if_neg hb] at hf
              have hb' : (thAt s k.th).buf = [] := Decidable.not_not.1 hb
              refine lower_sim hp r _ _ hs ?_ hr.2
              rw [hf, h.mem]
              have := h.set (th := k.th) (m := s.mem) (t := thAt s k.th) (c := ((spos g (startB p.thr k.th.toNat) (thAt s k.th).pc.toNat : Nat) : Int)) fun l' hl' => by
                rw [hl] at hl'; cases hl'
                exact .inr ⟨rfl, hlt, hh, hb', rfl⟩
              have e : setTh s k.th s.mem (thAt s k.th) = s := by
                unfold setTh
                rw [set_self ht]
              rwa [e] at this
          · exact atstep _ hx h5 (fun _ => h4)
      ·
        exfalso
        have he : (thAt s k.th).pc.toNat = L.length := by have := hT.pc; omega
        rcases hP with hP | ⟨_, h2, _⟩
        · have hA : atS (insP p g) z k.th = none := by
            unfold atS
            rw [if_pos hin, insP_thr hl, hzT, Option.getD_some, List.getElem?_eq_none]
            rw [insT_end, hP, he]; simp
          have := hr.1
          rw [stepW_go hk hin, hA] at this
          cases this
        · exact hlt h2
theorem raise_sim (hp : RightP p) : ∀ (l : List Pck) (s z : Sta), RightS p s → Sim false p g s z → (runW p s l).2.2 = true → freeB p g s l = true →
    (runW (insP p g) z (raiL p g s l)).2.2 = true ∧ Sim false p g (runW p s l).1 (runW (insP p g) z (raiL p g s l)).1 ∧ lowL p (insP p g) g z (raiL p g s l) = l ∧ RightS p (runW p s l).1
  | [], s, z, hs, h, _, _ => ⟨rfl, h, rfl, hs⟩
  | k :: r, s, z, hs, h, hr, hf => by
    rw [runW_ok, Bool.and_eq_true] at hr
    rw [freeB_cons, Bool.and_eq_true] at hf
    have hin := stepW_in' hr.1
    have hin' : 0 ≤ k.th ∧ k.th < z.ths.length := by rw [h.len]; exact hin
    rw [runW_st hr.1, raiL]
    cases hk : k.dr with
    | true =>
      obtain ⟨h1, h2⟩ := step_drain (k := k) hs h hk
      have h3 : (stepW (insP p g) z k).2 = true := by rw [h1]; exact hr.1
      obtain ⟨i1, i2, i3, i4⟩ := raise_sim hp r _ _ (stepW_right hp hs) (h2 hr.1) hr.2 hf.2
      rw [if_neg (fun h => by cases h.1), List.singleton_append, runW_ok, runW_st h3, h3, i1, lowL, if_pos (.inl hk), i3]
      exact ⟨rfl, i2, rfl, i4⟩
    | false =>
      have ht := thAt_get hin
      have hlen := hs.ths
      obtain ⟨x, q, hA, hg, hW⟩ := stepW_at hr.1 hk
      obtain ⟨L, c1, c2, hl, _, hT, hx, hX, hlt⟩ := atS_spec hp hs hA
      obtain ⟨c, hz, hP⟩ := h.th _ _ _ ht hl
      have hc : c = ((fpos g (startB p.thr k.th.toNat) (thAt s k.th).pc.toNat : Nat) : Int) := by
        rcases hP with hP | ⟨h1, _⟩
        · exact hP
        · cases h1
      subst hc
      have hi := (List.getElem?_eq_some_iff.1 hx).1
      have hzT : thAt z k.th = { thAt s k.th with pc := ((fpos g (startB p.thr k.th.toNat) (thAt s k.th).pc.toNat : Nat) : Int) } := by unfold thAt at hz ⊢; rw [hz]; rfl
      rw [hk, num_at hp hs hA] at hf
      rw [num_at hp hs hA]
      have key : ∀ z' : Sta, z'.ths[k.th.toNat]? = some { thAt s k.th with pc := ((spos g (startB p.thr k.th.toNat) (thAt s k.th).pc.toNat : Nat) : Int) } → z'.mem = s.mem → (∀ m u, setTh z' k.th m u = setTh z k.th m u) →
          (runW (insP p g) z' (k :: raiL p g (stepW p s k).1 r)).2.2 = true ∧ Sim false p g (runW p (stepW p s k).1 r).1 (runW (insP p g) z' (k :: raiL p g (stepW p s k).1 r)).1 ∧ lowL p (insP p g) g z' (k :: raiL p g (stepW p s k).1 r) = k :: r ∧ RightS p (runW p (stepW p s k).1 r).1 := by
        intro z' hz' hm hset
        have hq := step_at (g := g) (s := s) hp hk c1 hl hx hz' hT.pc.1
        rw [hm, hg] at hq
        dsimp only at hq
        have hzT' : thAt z' k.th = { thAt s k.th with pc := ((spos g (startB p.thr k.th.toNat) (thAt s k.th).pc.toNat : Nat) : Int) } := by unfold thAt at hz' ⊢; rw [hz']; rfl
        have h3 : (stepW (insP p g) z' k).2 = true := by rw [hq]
        have hS : Sim false p g (stepW p s k).1 (stepW (insP p g) z' k).1 := by
          rw [hq, hW, hset]
          exact h.set fun l' hl' => .inl rfl
        obtain ⟨i1, i2, i3, i4⟩ := raise_sim hp r _ _ (stepW_right hp hs) hS hr.2 hf.2
        have hno := fence_no (g := g) (i := (thAt s k.th).pc.toNat) hl
        rw [runW_ok, runW_st h3, h3, i1, lowL, hzT', if_pos (.inr hno), i3]
        exact ⟨rfl, i2, rfl, i4⟩
      cases hh : hasB g ((startB p.thr k.th.toNat + (thAt s k.th).pc.toNat : Nat) : Int) with
      | false =>
        rw [if_neg (fun h => by cases h.2), List.singleton_append]
        exact key z (by rw [spos_no hh]; exact hz) h.mem (fun _ _ => rfl)
      | true =>
        rw [if_pos ⟨rfl, rfl⟩]
        have hb : (thAt s k.th).buf = [] := by
          have := hf.1
          rw [hh] at this
          by_cases e : (thAt s k.th).buf = []
          · exact e
          · simp [e] at this
        have hF := step_fence (g := g) (k := ⟨k.th, false⟩) rfl c1 hl hi hh hz
        rw [if_neg (not_not_intro hb)] at hF
        have h3 : (stepW (insP p g) z ⟨k.th, false⟩).2 = true := by rw [hF]
        have hy := fence_yes (g := g) hl hi hh
        obtain ⟨i1, i2, i3, i4⟩ := key (setTh z k.th z.mem { thAt s k.th with pc := ((spos g (startB p.thr k.th.toNat) (thAt s k.th).pc.toNat : Nat) : Int) })
          (by simp only [setTh]; rw [List.getElem?_set_self (by omega)]) h.mem (fun m u => by simp only [setTh, List.set_set])
        show (runW (insP p g) z (⟨k.th, false⟩ :: k :: raiL p g (stepW p s k).1 r)).2.2 = true ∧ Sim false p g _ (runW (insP p g) z (⟨k.th, false⟩ :: k :: raiL p g (stepW p s k).1 r)).1 ∧ lowL p (insP p g) g z (⟨k.th, false⟩ :: k :: raiL p g (stepW p s k).1 r) = k :: r ∧ _
        rw [runW_ok, runW_st h3, lowL, if_neg, h3, hF]
        · exact ⟨by rw [i1]; rfl, i2, i3, i4⟩
        · rw [hzT]
          dsimp only
          rw [hy]; simp
theorem Sim.regs {b : Bool} {s z : Sta} (hs : RightS p s) (h : Sim b p g s z) : regsB z = regsB s := by
  have e : z.ths.map (·.regs) = s.ths.map (·.regs) := by
    apply List.ext_getElem?
    intro i
    rw [List.getElem?_map, List.getElem?_map]
    by_cases hi : i < s.ths.length
    · have hlen := hs.ths
      have ht : s.ths[i]? = some s.ths[i] := List.getElem?_eq_getElem hi
      have hl : p.thr[i]? = some (p.thr[i]'(by omega)) := List.getElem?_eq_getElem (by omega)
      obtain ⟨c, hz, _⟩ := h.th i _ _ ht hl
      rw [hz, ht]; rfl
    · rw [List.getElem?_eq_none (by rw [h.len]; omega), List.getElem?_eq_none (by omega)]
  unfold regsB
  rw [List.flatMap_def, List.flatMap_def, e]
theorem Sim.overT {b : Bool} {s z : Sta} (hs : RightS p s) (h : Sim b p g s z) {i : Nat} (hi : i < s.ths.length) : (overT (insP p g) z i = true → overT p s i = true) ∧ (b = false → overT p s i = true → overT (insP p g) z i = true) := by
  have hlen := hs.ths
  have ht : s.ths[i]? = some s.ths[i] := List.getElem?_eq_getElem hi
  have hl : p.thr[i]? = some (p.thr[i]'(by omega)) := List.getElem?_eq_getElem (by omega)
  obtain ⟨c, hz, hP⟩ := h.th i _ _ ht hl
  have hT := hs.t i _ _ hl ht
  have hq := insP_thr (g := g) hl
  unfold Go.Proofs.Yteieinhgdjjdoaa.overT
  rw [hz, ht, hl, hq]
  dsimp only
  rw [insT_end]
  have hpc := hT.pc
  simp only [Bool.and_eq_true, decide_eq_true_eq]
  refine ⟨fun ⟨h1, h2⟩ => ⟨?_, h2⟩, fun hb ⟨h1, h2⟩ => ⟨?_, h2⟩⟩
  · rcases hP with hP | ⟨_, h2, _, _, h5⟩
    · rw [hP] at h1
      rcases Nat.lt_or_ge (s.ths[i]).pc.toNat (p.thr[i]'(by omega)).length with e | e
      · have := fpos_mono (g := g) (a := startB p.thr i) e; omega
      · omega
    · rw [h5] at h1
      have := fpos_lt (g := g) (a := startB p.thr i) h2
      omega
  · rcases hP with hP | ⟨h3, _⟩
    · rw [hP]
      have : (s.ths[i]).pc.toNat = (p.thr[i]'(by omega)).length := by omega
      rw [this]
    · rw [hb] at h3; cases h3
theorem Sim.over {b : Bool} {s z : Sta} (hs : RightS p s) (h : Sim b p g s z) : (overB (insP p g) z = true → overB p s = true) ∧ (b = false → overB p s = overB (insP p g) z) := by
  have e1 : overB (insP p g) z = true → overB p s = true := by
    unfold overB
    rw [h.len, List.all_eq_true, List.all_eq_true]
    intro h1 i hi
    exact (h.overT hs (by simpa using hi)).1 (h1 i hi)
  refine ⟨e1, fun hb => ?_⟩
  rw [Bool.eq_iff_iff]
  refine ⟨?_, e1⟩
  unfold overB
  rw [h.len, List.all_eq_true, List.all_eq_true]
  intro h1 i hi
  exact (h.overT hs (by simpa using hi)).2 hb (h1 i hi)
end
end Go.Proofs.Yteieinhgdjjdoaa
namespace Go.Proofs.Yteieinhgdjjdoaa
open Go.RowKit
set_option maxRecDepth 8000
theorem runW_right {p : Prg} (hp : RightP p) : ∀ (l : List Pck) (s : Sta), RightS p s → RightS p (runW p s l).1
  | [], s, h => h
  | k :: r, s, h => by
    rw [runW_cons]
    split
    · exact runW_right hp r _ (stepW_right hp h)
    · exact h
theorem runW_few {p : Prg} : ∀ (l : List Pck) (s : Sta) (n : Nat), Few s n → Few (runW p s l).1 (n + l.length)
  | [], s, n, h => h
  | k :: r, s, n, h => by
    rw [runW_cons]
    split
    · have := runW_few (p := p) r _ _ (stepW_few (p := p) (k := k) h)
      rwa [show n + (k :: r).length = n + 1 + r.length by simp; omega]
    · exact h.mono (by omega)
theorem right_small {p : Prg} {s : Sta} (hp : RightP p) (hs : RightS p s) : s.mem.length ≤ 4 ∧ s.ths.length ≤ 3 ∧ ∀ t ∈ s.ths, t.regs.length = 4 := by
  have h1 := hp.init; have h2 := hp.thr; have h3 := hs.mem; have h4 := hs.ths
  refine ⟨by omega, by omega, fun t ht => ?_⟩
  obtain ⟨i, hi⟩ := List.getElem?_of_mem ht
  have hlt := (List.getElem?_eq_some_iff.1 hi).1
  exact (hs.t i _ t (List.getElem?_eq_getElem (by omega)) hi).regs
theorem regsB_len {p : Prg} {s : Sta} (hp : RightP p) (hs : RightS p s) : (regsB s).length ≤ 12 := by
  obtain ⟨h1, h2, h3⟩ := right_small hp hs
  have : ∀ (l : List Thd), (∀ t ∈ l, t.regs.length = 4) → (l.flatMap (·.regs)).length = 4 * l.length := by
    intro l
    induction l with
    | nil => intro _; rfl
    | cons t l ih =>
      intro h
      rw [List.flatMap_cons, List.length_append, ih fun t ht => h t (by simp [ht]), h t (by simp), List.length_cons]
      omega
  unfold regsB
  rw [this _ h3]
  omega
set_option maxHeartbeats 16000000 in
theorem crossRaiseH (p : Prg) (g : List Int) (l : List Pck) : HFn Try.prog 6 [prgH p, .sl (ints g), .sl (pcks l)] (.v (.bool true)) := by
  refine HCalls_body (fn := Try.f6) 118 [6] (by kernel_rfl) rfl (by kernel_rfl) (HW.run 400 (by kernel_rfl) ?_)
  simp (config := { decide := true }) only [go_sem, Int.reduceToNat, Nat.reduceAdd, Nat.reduceSub, Nat.reduceMul, Nat.reduceBEq, reduceIte, reduceCtorEq]
  refine callX_nm (lawHead) rfl rfl ?_
  simp (config := { decide := true }) only [go_sem, Int.reduceToNat, Nat.reduceAdd, Nat.reduceSub, Nat.reduceMul, Nat.reduceBEq, reduceIte, reduceCtorEq]
  refine callX_nm (lawGreat14 p l g) rfl rfl ?_
  cases hG : great14 p l g with
  | true =>
    simp (config := { decide := true }) only [go_sem, Int.reduceToNat, Nat.reduceAdd, Nat.reduceSub, Nat.reduceMul, Nat.reduceBEq, reduceIte, reduceCtorEq]
  | false =>
    obtain ⟨hp, h4, hl, hg⟩ := great14_ok hG
    have hC := crossCross p l hp (by omega)
    have hR := crossRaise p g l hp (by omega) (by omega)
    rw [crossF_eq] at hC
    rw [raiseF_eq] at hR
    cases h1 : (runW p (beginS p) l).2.2 with
    | false =>
      rw [h1, if_neg (by simp), Option.getD_none, Option.isSome_none] at hC
      rw [h1, Bool.false_and, if_neg (by simp), Option.getD_none, Option.isSome_none] at hR
      simp (config := { decide := true }) only [go_sem, Int.reduceToNat, Nat.reduceAdd, Nat.reduceSub, Nat.reduceMul, Nat.reduceBEq, reduceIte, reduceCtorEq]
      refine callX_nm (hC) rfl rfl ?_
      simp (config := { decide := true }) only [go_sem, Int.reduceToNat, Nat.reduceAdd, Nat.reduceSub, Nat.reduceMul, Nat.reduceBEq, reduceIte, reduceCtorEq]
      refine callX_nm (hR) rfl rfl ?_
      simp (config := { decide := true }) only [go_sem, Int.reduceToNat, Nat.reduceAdd, Nat.reduceSub, Nat.reduceMul, Nat.reduceBEq, reduceIte, reduceCtorEq]
    | true =>
      rw [h1, if_pos rfl, Option.getD_some, Option.isSome_some] at hC
      rw [h1, Bool.true_and] at hR
      have hcl : ((crossed p (beginS p) l).foldl putB []).length ≤ 10000 := by
        have := cross_len (p := p) (l := l)
        rw [crossF_eq, if_pos h1, Option.getD_some] at this
        omega
      have hM := refMeet ((crossed p (beginS p) l).foldl putB []) g (by omega) (by omega)
      rw [meetB_free] at hM
      generalize (crossed p (beginS p) l).foldl putB [] = c at hC hM hcl
      cases h2 : freeB p g (beginS p) l with
      | false =>
        rw [h2, if_neg (by simp), Option.getD_none, Option.isSome_none] at hR
        rw [h2] at hM
        simp (config := { decide := true }) only [go_sem, Int.reduceToNat, Nat.reduceAdd, Nat.reduceSub, Nat.reduceMul, Nat.reduceBEq, reduceIte, reduceCtorEq]
        refine callX_nm (hC) rfl rfl ?_
        simp (config := { decide := true }) only [go_sem, Int.reduceToNat, Nat.reduceAdd, Nat.reduceSub, Nat.reduceMul, Nat.reduceBEq, reduceIte, reduceCtorEq]
        refine callX_nm (hR) rfl rfl ?_
        simp (config := { decide := true }) only [go_sem, Int.reduceToNat, Nat.reduceAdd, Nat.reduceSub, Nat.reduceMul, Nat.reduceBEq, reduceIte, reduceCtorEq]
        refine callX_fn 3 (hM) (by simp only [go_sem]) (by simp only [go_sem]) ?_
        simp (config := { decide := true }) only [go_sem, Int.reduceToNat, Nat.reduceAdd, Nat.reduceSub, Nat.reduceMul, Nat.reduceBEq, reduceIte, reduceCtorEq]
      | true =>
        rw [h2, if_pos rfl, Option.getD_some, Option.isSome_some, List.nil_append] at hR
        rw [h2] at hM
        obtain ⟨j1, j2, j3, j4⟩ := raise_sim (g := g) hp l (beginS p) (beginS (insP p g)) begin_right sim_begin h1 h2
        have hq := insP_right g hp h4
        have hml := raise_len (p := p) (g := g) (l := l)
        rw [raiseF_eq, h1, h2, Bool.true_and, if_pos rfl, Option.getD_some, List.nil_append] at hml
        have hL := crossLower p g (raiL p g (beginS p) l) hp h4 (by omega) (by omega)
        rw [lowerF_eq, if_pos j1, Option.getD_some, Option.isSome_some, List.nil_append, j3] at hL
        have hA := refRun p l true hp (by omega)
        have hB := refRun (insP p g) (raiL p g (beginS p) l) true hq (by omega)
        have k4 := runW_right hq (raiL p g (beginS p) l) (beginS (insP p g)) begin_right
        have e1 := j2.mem
        have e2 := j2.regs j4
        have e3 := (j2.over j4).2 rfl
        simp only [runW] at h1 j1 j2 j4 k4 e1 e2 e3
        rw [h1] at hA
        rw [j1] at hB
        generalize raiL p g (beginS p) l = m at hR hL hB hml j1 j2 k4 e1 e2 e3
        generalize runF (fun s k => stepB p s k true) (beginS p) l = W at hA h1 j2 j4 e1 e2 e3
        generalize runF (fun s k => stepB (insP p g) s k true) (beginS (insP p g)) m = Z at hB j1 j2 k4 e1 e2 e3
        obtain ⟨a, n1, b1⟩ := W
        obtain ⟨b, n2, b2⟩ := Z
        simp only at h1 j1 j2 j4 k4 e1 e2 e3 hA hB
        obtain ⟨s1, s2, s3⟩ := right_small hp j4
        obtain ⟨s4, s5, s6⟩ := right_small hq k4
        have s7 := regsB_len hp j4
        have hE1 := refEnd a (by omega) (by omega) (fun t ht => by have := s3 t ht; omega)
        have hE2 := refEnd b (by omega) (by omega) (fun t ht => by have := s6 t ht; omega)
        have hO1 := refOver p a hp j4
        have hO2 := refOver (insP p g) b hq k4
        rw [e2] at hE2
        rw [← e3] at hO2
        have hSI := refSameInts a.mem b.mem (by omega)
        rw [decide_eq_true e1.symm] at hSI
        replace hR := HFn.shut (R' := .tu [.sl (pcks m), .v (.bool true)]) hR (by simp only [fzo, fzoL, pcks_fzoR])
        simp (config := { decide := true }) only [go_sem, Int.reduceToNat, Nat.reduceAdd, Nat.reduceSub, Nat.reduceMul, Nat.reduceBEq, reduceIte, reduceCtorEq]
        refine callX_nm (hC) rfl rfl ?_
        simp (config := { decide := true }) only [go_sem, Int.reduceToNat, Nat.reduceAdd, Nat.reduceSub, Nat.reduceMul, Nat.reduceBEq, reduceIte, reduceCtorEq]
        refine callX_nm (hR) rfl rfl ?_
        simp (config := { decide := true }) only [go_sem, Int.reduceToNat, Nat.reduceAdd, Nat.reduceSub, Nat.reduceMul, Nat.reduceBEq, reduceIte, reduceCtorEq]
        refine callX_fn 3 (hM) (by simp only [go_sem]) (by simp only [go_sem]) ?_
        simp (config := { decide := true }) only [go_sem, Int.reduceToNat, Nat.reduceAdd, Nat.reduceSub, Nat.reduceMul, Nat.reduceBEq, reduceIte, reduceCtorEq]
        refine callX_nm (refInsert p g hp (by omega)) rfl rfl ?_
        simp (config := { decide := true }) only [go_sem, Int.reduceToNat, Nat.reduceAdd, Nat.reduceSub, Nat.reduceMul, Nat.reduceBEq, reduceIte, reduceCtorEq]
        refine callX_nm (hA) rfl rfl ?_
        simp (config := { decide := true }) only [go_sem, Int.reduceToNat, Nat.reduceAdd, Nat.reduceSub, Nat.reduceMul, Nat.reduceBEq, reduceIte, reduceCtorEq]
        refine callX_nm (hB) rfl rfl ?_
        simp (config := { decide := true }) only [go_sem, Int.reduceToNat, Nat.reduceAdd, Nat.reduceSub, Nat.reduceMul, Nat.reduceBEq, reduceIte, reduceCtorEq]
        refine callX_nm (hL) rfl rfl ?_
        simp (config := { decide := true }) only [go_sem, Int.reduceToNat, Nat.reduceAdd, Nat.reduceSub, Nat.reduceMul, Nat.reduceBEq, reduceIte, reduceCtorEq]
        repeat (with_reducible refine And.intro ?_ ?_; · (with_reducible and_intros) <;> omega)
        refine HW.tree 1 (.light 0 (.light 1 (.light 2 (.light 3 (.light 4 (.light 5 (.light 6 (.light 7 (.light 8 (.light 9 (.heavy 10 [] (.light 11 (.light 12 (.light 13 (.light 14 (.light 15 (.light 16 (.heavy 17 [] (.light 18 (.light 19 (.light 20 (.light 23 (.heavy 21 [23] (.light 22 (.heavy 24 [22] (.light 25 (.heavy 26 [] (.light 27 (.light 28 (.light 29 (.light 30 (.light 32 (.light 33 (.heavy 31 [32,33] (.heavy 34 [] (.light 35 (.light 36 (.light 37 .leaf))) .stop) .stop))))))) .stop)) .stop)) .stop))))) .stop))))))) .stop))))))))))) follows (by kernel_rfl) (by kernel_rfl) ?_
        simp (config := { decide := true }) only [go_sem, Int.reduceToNat, Nat.reduceAdd, Nat.reduceSub, Nat.reduceMul, Nat.reduceBEq, reduceIte, reduceCtorEq]
        refine callX_fn 3 (refSamePicks l l (by omega)) (by simp only [go_sem]) rfl ?_
        simp (config := { decide := true }) only [go_sem, Int.reduceToNat, Nat.reduceAdd, Nat.reduceSub, Nat.reduceMul, Nat.reduceBEq, reduceIte, reduceCtorEq]
        refine callX_fn 3 (hSI) (by simp only [go_sem]) rfl ?_
        simp (config := { decide := true }) only [go_sem, Int.reduceToNat, Nat.reduceAdd, Nat.reduceSub, Nat.reduceMul, Nat.reduceBEq, reduceIte, reduceCtorEq]
        refine callX_nm (hE1) rfl rfl ?_
        simp (config := { decide := true }) only [go_sem, Int.reduceToNat, Nat.reduceAdd, Nat.reduceSub, Nat.reduceMul, Nat.reduceBEq, reduceIte, reduceCtorEq]
        refine callX_nm (hE2) rfl rfl ?_
        simp (config := { decide := true }) only [go_sem, Int.reduceToNat, Nat.reduceAdd, Nat.reduceSub, Nat.reduceMul, Nat.reduceBEq, reduceIte, reduceCtorEq]
        refine callX_fn 3 (refSameInts (regsB a) (regsB a) (by omega)) (by simp only [go_sem]) (by simp only [go_sem]) ?_
        simp (config := { decide := true }) only [go_sem, Int.reduceToNat, Nat.reduceAdd, Nat.reduceSub, Nat.reduceMul, Nat.reduceBEq, reduceIte, reduceCtorEq]
        refine callX_nm (hO1) rfl rfl ?_
        simp (config := { decide := true }) only [go_sem, Int.reduceToNat, Nat.reduceAdd, Nat.reduceSub, Nat.reduceMul, Nat.reduceBEq, reduceIte, reduceCtorEq]
        refine callX_nm (hO2) rfl rfl ?_
        simp (config := { decide := true }) only [go_sem, Int.reduceToNat, Nat.reduceAdd, Nat.reduceSub, Nat.reduceMul, Nat.reduceBEq, reduceIte, reduceCtorEq]
end Go.Proofs.Yteieinhgdjjdoaa
namespace Go.Proofs.Yteieinhgdjjdoaa
open Go.RowKit
set_option maxRecDepth 8000
set_option maxHeartbeats 16000000 in
theorem crossWithinH (p : Prg) (l : List Pck) : HFn Try.prog 4 [prgH p, .sl (pcks l)] (.v (.bool true)) := by
  refine HCalls_body (fn := Try.f4) 96 [4] (by kernel_rfl) rfl (by kernel_rfl) (HW.run 400 (by kernel_rfl) ?_)
  simp (config := { decide := true }) only [go_sem, Int.reduceToNat, Nat.reduceAdd, Nat.reduceSub, Nat.reduceMul, Nat.reduceBEq, reduceIte, reduceCtorEq]
  refine callX_nm (lawHead) rfl rfl ?_
  simp (config := { decide := true }) only [go_sem, Int.reduceToNat, Nat.reduceAdd, Nat.reduceSub, Nat.reduceMul, Nat.reduceBEq, reduceIte, reduceCtorEq]
  refine callX_nm (HCalls.nilA (args := [prgH p, .sl (pcks l), .v (.slice none 0 0)]) (lawGreat14 p l []) rfl) rfl rfl ?_
  cases hG : great14 p l [] with
  | true =>
    simp (config := { decide := true }) only [go_sem, Int.reduceToNat, Nat.reduceAdd, Nat.reduceSub, Nat.reduceMul, Nat.reduceBEq, reduceIte, reduceCtorEq]
  | false =>
    obtain ⟨hp, h4, hl, hg⟩ := great14_ok hG
    have hC := crossCross p l hp (by omega)
    rw [crossF_eq] at hC
    have hA := refRun p l true hp (by omega)
    have hsl := crossed_slots hp l (beginS p) begin_right
    have hrise := foldl_putB_rise (crossed p (beginS p) l) [] (by simp)
    have hmem : ∀ n, n ∈ (crossed p (beginS p) l).foldl putB [] → n ∈ crossed p (beginS p) l := fun n h => by
      rw [foldl_putB_mem] at h
      rcases h with h | h
      · exact h
      · cases h
    have hcl := cross_len (p := p) (l := l)
    rw [crossF_eq] at hcl
    cases h1 : (runW p (beginS p) l).2.2 with
    | false =>
      rw [h1, if_neg (by simp), Option.getD_none, Option.isSome_none] at hC
      simp only [runW] at h1
      rw [h1] at hA
      simp (config := { decide := true }) only [go_sem, Int.reduceToNat, Nat.reduceAdd, Nat.reduceSub, Nat.reduceMul, Nat.reduceBEq, reduceIte, reduceCtorEq]
      refine callX_nm (hC) rfl rfl ?_
      simp (config := { decide := true }) only [go_sem, Int.reduceToNat, Nat.reduceAdd, Nat.reduceSub, Nat.reduceMul, Nat.reduceBEq, reduceIte, reduceCtorEq]
      refine callX_nm (hA) rfl rfl ?_
      simp (config := { decide := true }) only [go_sem, Int.reduceToNat, Nat.reduceAdd, Nat.reduceSub, Nat.reduceMul, Nat.reduceBEq, reduceIte, reduceCtorEq]
      refine HW.loopG (fun k T H => T 5 = .v (.bool true) ∧ T 6 = .hd 1 0 0 ∧ T 11 = .v (.int .i64 0) ∧
        H = [some ⟨25, 2, [[.sl (ints p.init), .sl (thrs p.thr)]]⟩, some ⟨3, 1, []⟩, some ⟨38, 2, [[.sl (ints (runF (fun s k => stepB p s k true) (beginS p) l).1.mem), .sl (thds (runF (fun s k => stepB p s k true) (beginS p) l).1.ths)]]⟩]) 0
        ⟨_, _, Ghost.refl, rfl, rfl, rfl, rfl⟩ ?_
      rintro k T H ⟨h5, h6, h11, rfl⟩
      refine HW.run 200 (by kernel_rfl) ?_
      simp (config := { decide := true }) only [go_sem, Int.reduceToNat, Nat.reduceAdd, Nat.reduceSub, Nat.reduceMul, Nat.reduceBEq, reduceIte, reduceCtorEq, h5, h6, h11]
    | true =>
      rw [h1, if_pos rfl, Option.getD_some, Option.isSome_some] at hC
      rw [h1, if_pos rfl, Option.getD_some] at hcl
      have hsl := hsl h1
      simp only [runW] at h1
      rw [h1] at hA
      generalize hc : (crossed p (beginS p) l).foldl putB [] = c at hC hrise hmem hcl
      have hsl' : ∀ n ∈ c, ∃ x, Slot p n x ∧ x.op ≠ 6 ∧ x.op ≠ 5 := fun n hn => hsl n (hmem n hn)
      clear hsl hmem hc
      generalize runF (fun s k => stepB p s k true) (beginS p) l = W at hA h1
      obtain ⟨a, n1, b1⟩ := W
      simp only at hA h1
      simp (config := { decide := true }) only [go_sem, Int.reduceToNat, Nat.reduceAdd, Nat.reduceSub, Nat.reduceMul, Nat.reduceBEq, reduceIte, reduceCtorEq]
      refine callX_nm (hC) rfl rfl ?_
      simp (config := { decide := true }) only [go_sem, Int.reduceToNat, Nat.reduceAdd, Nat.reduceSub, Nat.reduceMul, Nat.reduceBEq, reduceIte, reduceCtorEq]
      refine callX_nm (hA) rfl rfl ?_
      simp (config := { decide := true }) only [go_sem, Int.reduceToNat, Nat.reduceAdd, Nat.reduceSub, Nat.reduceMul, Nat.reduceBEq, reduceIte, reduceCtorEq]
      refine HW.loopG (fun k T H => ∃ i : Nat, k = c.length - i ∧ i ≤ c.length ∧ T 2 = .pt 0 1 0 0 ∧ T 5 = .v (.bool true) ∧ T 6 = .hd 1 0 c.length ∧ T 11 = .v (.int .i64 i) ∧
        H = [some ⟨25, 2, [[.sl (ints p.init), .sl (thrs p.thr)]]⟩, some ⟨3, 1, ints c⟩, some ⟨38, 2, [[.sl (ints a.mem), .sl (thds a.ths)]]⟩]) c.length
        ⟨_, _, Ghost.refl, 0, rfl, by omega, rfl, rfl, rfl, rfl, rfl⟩ ?_
      rintro k T H ⟨i, rfl, hi, h2, h5, h6, h11, rfl⟩
      refine HW.run 200 (by kernel_rfl) ?_
      by_cases hlt : i < c.length
      · have hlt' : ((i : Int) < (c.length : Int)) = True := by rw [int_lt]; simp [hlt]
        have hx : c[i]? = some c[i] := List.getElem?_eq_getElem hlt
        obtain ⟨x, hS, hx6, hx5⟩ := hsl' c[i] (List.getElem_mem hlt)
        have hb : -1000000 ≤ c[i] ∧ c[i] ≤ 1000000 := by
          obtain ⟨t, L, j, h1, h2, h3⟩ := hS
          have a1 := (List.getElem?_eq_some_iff.1 h1).1
          have a2 := (List.getElem?_eq_some_iff.1 h2).1
          have a3 := startB_le hp.small t
          have a4 := hp.small.len L (List.mem_of_getElem? h1)
          have a5 := hp.small.thr
          rw [h3]; omega
        obtain ⟨t, L, j, hL, hX, hO⟩ := slot_of hS
        have a1 := (List.getElem?_eq_some_iff.1 hL).1
        have a2 := (List.getElem?_eq_some_iff.1 hX).1
        have hpre : ∀ m, c[i - 1]? = some m → 0 < i → m < c[i] := fun m hm h0 => by
          have := List.pairwise_iff_getElem.1 hrise (i - 1) i (by omega) hlt (by omega)
          rw [List.getElem?_eq_getElem (by omega)] at hm
          cases hm; exact this
        have hOf := refOf p c[i] hp.small hb
        rw [hO] at hOf
        generalize c[i] = n at hx hOf hpre
        simp (config := { decide := true }) only [go_sem, Int.reduceToNat, Nat.reduceAdd, Nat.reduceSub, Nat.reduceMul, Nat.reduceBEq, reduceIte, reduceCtorEq, h2, h5, h6, h11, hlt', hx]
        repeat (with_reducible refine And.intro ?_ ?_; · (with_reducible and_intros) <;> omega)
        refine HW.tree 1 (.light 0 (.light 1 (.light 2 (.light 3 (.light 4 (.heavy 5 [] (.light 6 (.light 7 (.light 8 (.light 9 (.light 10 (.light 11 (.light 12 .leaf))))))) .stop)))))) follows (by kernel_rfl) (by kernel_rfl) ?_
        simp (config := { decide := true }) only [go_sem, Int.reduceToNat, Nat.reduceAdd, Nat.reduceSub, Nat.reduceMul, Nat.reduceBEq, reduceIte, reduceCtorEq, h2, h5, h6, h11, hlt', hx]
        refine callX_nm (hOf) rfl rfl ?_
        simp (config := { decide := true }) only [go_sem, Int.reduceToNat, Nat.reduceAdd, Nat.reduceSub, Nat.reduceMul, Nat.reduceBEq, reduceIte, reduceCtorEq, h2, h5, h6, h11, hlt', hx]
        refine HW.quiet 60 follows (by kernel_rfl) ?_
        have c6 : (x.op = 6) = False := eq_false hx6
        have c5 : (x.op = 5) = False := eq_false hx5
        have b1' : ((t : Int) < (p.thr.length : Int)) = True := by rw [int_lt]; simp [a1]
        have b2' : ((j : Int) < (L.length : Int)) = True := by rw [int_lt]; simp [a2]
        rcases tf ((0 : Int) < (i : Int)) with ⟨d1, c1⟩ | ⟨d1, c1⟩
        · have hw : IntKind.i64.wrap ((i : Int) - 1) = ((i - 1 : Nat) : Int) := by rw [w64 (by omega) (by omega)]; omega
          have hm : c[i - 1]? = some (c[i - 1]'(by omega)) := List.getElem?_eq_getElem (by omega)
          have hlt3 : (((i - 1 : Nat) : Int) < (c.length : Int)) = True := by rw [int_lt]; simp; omega
          have hnm := hpre _ hm (by omega)
          generalize c[i - 1]'(by omega) = n' at hm hnm
          have c2 : (n ≤ n') = False := eq_false (by omega)
          simp (config := { decide := true }) only [go_sem, Int.reduceToNat, Nat.reduceAdd, Nat.reduceSub, Nat.reduceMul, Nat.reduceBEq, reduceIte, reduceCtorEq, h2, h5, h6, h11, hlt', hx, hw, hm, hlt3, c1, c2, c5, c6, b1', b2', hL, hX]
          refine GQ.done ⟨c.length - (i + 1), by omega, i + 1, rfl, by omega, ?_, ?_, ?_, ?_, rfl⟩
          all_goals first | (simp (config := { decide := true }) only [go_sem, Nat.reduceBEq, reduceIte, h2, h5, h6]; done) | (simp (config := { decide := true }) only [go_sem, Nat.reduceBEq, reduceIte, h11]; rw [w64 (by omega) (by omega)]; rfl)
        · simp (config := { decide := true }) only [go_sem, Int.reduceToNat, Nat.reduceAdd, Nat.reduceSub, Nat.reduceMul, Nat.reduceBEq, reduceIte, reduceCtorEq, h2, h5, h6, h11, hlt', hx, c1, c5, c6, b1', b2', hL, hX]
          refine GQ.done ⟨c.length - (i + 1), by omega, i + 1, rfl, by omega, ?_, ?_, ?_, ?_, rfl⟩
          all_goals first | (simp (config := { decide := true }) only [go_sem, Nat.reduceBEq, reduceIte, h2, h5, h6]; done) | (simp (config := { decide := true }) only [go_sem, Nat.reduceBEq, reduceIte, h11]; rw [w64 (by omega) (by omega)]; rfl)
      · have hlt' : ((i : Int) < (c.length : Int)) = False := by rw [int_lt]; simp [hlt]
        simp (config := { decide := true }) only [go_sem, Int.reduceToNat, Nat.reduceAdd, Nat.reduceSub, Nat.reduceMul, Nat.reduceBEq, reduceIte, reduceCtorEq, h2, h5, h6, h11, hlt']
end Go.Proofs.Yteieinhgdjjdoaa
namespace Go.Proofs.Yteieinhgdjjdoaa
open Go.RowKit
set_option maxRecDepth 8000
set_option maxHeartbeats 16000000 in
theorem crossLowerH (p : Prg) (g : List Int) (l : List Pck) : HFn Try.prog 5 [prgH p, .sl (ints g), .sl (pcks l)] (.v (.bool true)) := by
  refine HCalls_body (fn := Try.f5) 135 [6] (by kernel_rfl) rfl (by kernel_rfl) (HW.run 400 (by kernel_rfl) ?_)
  simp (config := { decide := true }) only [go_sem, Int.reduceToNat, Nat.reduceAdd, Nat.reduceSub, Nat.reduceMul, Nat.reduceBEq, reduceIte, reduceCtorEq]
  refine callX_nm (lawHead) rfl rfl ?_
  simp (config := { decide := true }) only [go_sem, Int.reduceToNat, Nat.reduceAdd, Nat.reduceSub, Nat.reduceMul, Nat.reduceBEq, reduceIte, reduceCtorEq]
  refine callX_nm (lawGreat14 p l g) rfl rfl ?_
  cases hG : great14 p l g with
  | true =>
    simp (config := { decide := true }) only [go_sem, Int.reduceToNat, Nat.reduceAdd, Nat.reduceSub, Nat.reduceMul, Nat.reduceBEq, reduceIte, reduceCtorEq]
  | false =>
    obtain ⟨hp, h4, hl, hg⟩ := great14_ok hG
    have hq := insP_right g hp h4
    have hL := crossLower p g l hp h4 (by omega) (by omega)
    rw [lowerF_eq] at hL
    have hA := refRun (insP p g) l true hq (by omega)
    cases h1 : (runW (insP p g) (beginS (insP p g)) l).2.2 with
    | false =>
      rw [h1, if_neg (by simp), Option.getD_none, Option.isSome_none] at hL
      simp only [runW] at h1
      rw [h1] at hA
      simp (config := { decide := true }) only [go_sem, Int.reduceToNat, Nat.reduceAdd, Nat.reduceSub, Nat.reduceMul, Nat.reduceBEq, reduceIte, reduceCtorEq]
      refine callX_nm (refInsert p g hp (by omega)) rfl rfl ?_
      simp (config := { decide := true }) only [go_sem, Int.reduceToNat, Nat.reduceAdd, Nat.reduceSub, Nat.reduceMul, Nat.reduceBEq, reduceIte, reduceCtorEq]
      refine callX_nm (hA) rfl rfl ?_
      simp (config := { decide := true }) only [go_sem, Int.reduceToNat, Nat.reduceAdd, Nat.reduceSub, Nat.reduceMul, Nat.reduceBEq, reduceIte, reduceCtorEq]
      refine callX_nm (hL) rfl rfl ?_
      simp (config := { decide := true }) only [go_sem, Int.reduceToNat, Nat.reduceAdd, Nat.reduceSub, Nat.reduceMul, Nat.reduceBEq, reduceIte, reduceCtorEq]
    | true =>
      rw [h1, if_pos rfl, Option.getD_some, Option.isSome_some, List.nil_append] at hL
      have hml := lower_len (p := p) (q := insP p g) (g := g) (l := l)
      rw [lowerF_eq, if_pos h1, Option.getD_some, List.nil_append] at hml
      obtain ⟨j1, j2, j3, j4⟩ := lower_sim (g := g) hp l (beginS p) (beginS (insP p g)) begin_right (by
        refine ⟨sim_begin.mem, sim_begin.len, fun i t L ht hL => ?_⟩
        obtain ⟨c, hz, hP⟩ := (sim_begin (p := p) (g := g)).th i t L ht hL
        rcases hP with hP | ⟨h, _⟩
        · exact ⟨c, hz, .inl hP⟩
        · cases h) h1
      generalize hm : lowL p (insP p g) g (beginS (insP p g)) l = m at hL hml j1 j2 j3 j4
      have hB := refRun p m true hp (by omega)
      have hC := crossCross p m hp (by omega)
      rw [crossF_eq, if_pos j1, Option.getD_some, Option.isSome_some] at hC
      have hcl : ((crossed p (beginS p) m).foldl putB []).length ≤ 10000 := by
        have := cross_len (p := p) (l := m)
        rw [crossF_eq, if_pos j1, Option.getD_some] at this
        omega
      have hM := refMeet ((crossed p (beginS p) m).foldl putB []) g (by omega) (by omega)
      rw [meetB_free, j3] at hM
      generalize (crossed p (beginS p) m).foldl putB [] = c at hC hM hcl
      have k4 := runW_right hq l (beginS (insP p g)) begin_right
      have k5 := runW_few (p := insP p g) l (beginS (insP p g)) 0 begin_few
      have e1 := j2.mem
      have e3 := (j2.over j4).1
      have e4 := j2.len
      have e5 := j2.th
      simp only [runW] at h1 j1 j2 j4 k4 k5 e1 e3 e4 e5
      rw [h1] at hA
      rw [j1] at hB
      generalize runF (fun s k => stepB p s k true) (beginS p) m = Z at hB j1 j2 j4 e1 e3 e4 e5
      generalize runF (fun s k => stepB (insP p g) s k true) (beginS (insP p g)) l = W at hA h1 j2 k4 k5 e1 e3 e4 e5
      obtain ⟨a, n1, b1⟩ := W
      obtain ⟨b, n2, b2⟩ := Z
      simp only at h1 j1 j2 j4 k4 k5 e1 e3 e4 e5 hA hB
      obtain ⟨s1, s2, s3⟩ := right_small hp j4
      obtain ⟨s4, s5, s6⟩ := right_small hq k4
      have hO1 := refOver p b hp j4
      have hO2 := refOver (insP p g) a hq k4
      have hSI := refSameInts a.mem b.mem (by omega)
      rw [decide_eq_true e1] at hSI
      replace hL := HFn.shut (R' := .tu [.sl (pcks m), .v (.bool true)]) hL (by simp only [fzo, fzoL, pcks_fzoR])
      simp (config := { decide := true }) only [go_sem, Int.reduceToNat, Nat.reduceAdd, Nat.reduceSub, Nat.reduceMul, Nat.reduceBEq, reduceIte, reduceCtorEq]
      refine callX_nm (refInsert p g hp (by omega)) rfl rfl ?_
      simp (config := { decide := true }) only [go_sem, Int.reduceToNat, Nat.reduceAdd, Nat.reduceSub, Nat.reduceMul, Nat.reduceBEq, reduceIte, reduceCtorEq]
      refine callX_nm (hA) rfl rfl ?_
      simp (config := { decide := true }) only [go_sem, Int.reduceToNat, Nat.reduceAdd, Nat.reduceSub, Nat.reduceMul, Nat.reduceBEq, reduceIte, reduceCtorEq]
      refine callX_nm (hL) rfl rfl ?_
      simp (config := { decide := true }) only [go_sem, Int.reduceToNat, Nat.reduceAdd, Nat.reduceSub, Nat.reduceMul, Nat.reduceBEq, reduceIte, reduceCtorEq]
      refine callX_nm (hB) rfl rfl ?_
      simp (config := { decide := true }) only [go_sem, Int.reduceToNat, Nat.reduceAdd, Nat.reduceSub, Nat.reduceMul, Nat.reduceBEq, reduceIte, reduceCtorEq]
      refine callX_nm (hC) rfl rfl ?_
      simp (config := { decide := true }) only [go_sem, Int.reduceToNat, Nat.reduceAdd, Nat.reduceSub, Nat.reduceMul, Nat.reduceBEq, reduceIte, reduceCtorEq]
      refine callX_fn 3 (hM) (by simp only [go_sem]) (by simp only [go_sem]) ?_
      simp (config := { decide := true }) only [go_sem, Int.reduceToNat, Nat.reduceAdd, Nat.reduceSub, Nat.reduceMul, Nat.reduceBEq, reduceIte, reduceCtorEq]
      refine callX_fn 3 (hSI) (by simp only [go_sem]) rfl ?_
      simp (config := { decide := true }) only [go_sem, Int.reduceToNat, Nat.reduceAdd, Nat.reduceSub, Nat.reduceMul, Nat.reduceBEq, reduceIte, reduceCtorEq, e4]
      have hOO : overB (insP p g) a = false ∨ (overB (insP p g) a = true ∧ overB p b = true) := by
        cases h : overB (insP p g) a with
        | false => exact .inl rfl
        | true => exact .inr ⟨rfl, e3 h⟩
      refine HW.loopG (fun k T H => ∃ i : Nat, k = b.ths.length - i ∧ i ≤ b.ths.length ∧ T 3 = .pt 0 1 0 0 ∧ T 7 = .v (.bool true) ∧ T 8 = .pt 1 1 0 0 ∧ T 9 = .pt 2 1 0 0 ∧ T 14 = .pt 3 1 0 0 ∧ T 19 = .v (.int .i64 i) ∧
        H = [some ⟨25, 2, [[.sl (ints p.init), .sl (thrs p.thr)]]⟩, some ⟨25, 2, [[.sl (ints (insP p g).init), .sl (thrs (insP p g).thr)]]⟩, some ⟨38, 2, [[.sl (ints a.mem), .sl (thds a.ths)]]⟩,
          some ⟨38, 2, [[.sl (ints b.mem), .sl (thds b.ths)]]⟩, some ⟨3, 1, ints c⟩]) b.ths.length
        ⟨_, _, Ghost.refl, 0, rfl, by omega, rfl, rfl, rfl, rfl, rfl, rfl, rfl⟩ ?_
      rintro k T H ⟨i, rfl, hi, h3, h7, h8, h9, h14, h19, rfl⟩
      refine HW.run 200 (by kernel_rfl) ?_
      by_cases hlt : i < b.ths.length
      · have hlt' : ((i : Int) < (a.ths.length : Int)) = True := by rw [int_lt]; simp; omega
        have hlt2 : ((i : Int) < (b.ths.length : Int)) = True := by rw [int_lt]; simp [hlt]
        have hy : b.ths[i]? = some b.ths[i] := List.getElem?_eq_getElem hlt
        have hlen := j4.ths
        obtain ⟨cp, hz, _⟩ := e5 i _ _ hy (List.getElem?_eq_getElem (show i < p.thr.length by omega))
        have hrg := s3 _ (List.getElem_mem hlt)
        have hbf := k5 _ (List.mem_of_getElem? hz)
        generalize b.ths[i] = y at hy hz hrg hbf
        have hT := refSameTh y y ⟨by omega, by simp only at hbf; omega⟩
        rw [show sameT y y = true by simp [sameT]] at hT
        simp (config := { decide := true }) only [go_sem, Int.reduceToNat, Nat.reduceAdd, Nat.reduceSub, Nat.reduceMul, Nat.reduceBEq, reduceIte, reduceCtorEq, h3, h7, h8, h9, h14, h19, hlt', hlt2, hy, hz]
        repeat (with_reducible refine And.intro ?_ ?_; · (with_reducible and_intros) <;> omega)
        refine HW.tree 1 (.light 0 (.light 1 (.light 2 (.light 3 (.light 4 (.light 5 (.heavy 6 [] (.light 7 .leaf) .stop))))))) follows (by kernel_rfl) (by kernel_rfl) ?_
        simp (config := { decide := true }) only [go_sem, Int.reduceToNat, Nat.reduceAdd, Nat.reduceSub, Nat.reduceMul, Nat.reduceBEq, reduceIte, reduceCtorEq, h3, h7, h8, h9, h14, h19, hlt', hlt2, hy, hz]
        refine callX_nm (hT) rfl rfl ?_
        simp (config := { decide := true }) only [go_sem, Int.reduceToNat, Nat.reduceAdd, Nat.reduceSub, Nat.reduceMul, Nat.reduceBEq, reduceIte, reduceCtorEq, h3, h7, h8, h9, h14, h19, hlt', hlt2, hy, hz]
        refine GQ.step (Ghost.trunc [3, 7, 8, 9, 14, 19] 5 (by omega) ?_ ?_) (GQ.done ⟨b.ths.length - (i + 1), by omega, i + 1, rfl, by omega, ?_, ?_, ?_, ?_, ?_, ?_, ?_⟩)
        · simp (config := { decide := true }) only [go_sem, Nat.reduceBEq, reduceIte, h3, h7, h8, h9, h14]
        · simp (config := { decide := true }) only [go_sem, Nat.reduceBEq, reduceIte]
        iterate 5 simp (config := { decide := true }) only [go_sem, Nat.reduceBEq, reduceIte, h3, h7, h8, h9, h14]
        · simp (config := { decide := true }) only [go_sem, Nat.reduceBEq, reduceIte, h19]; rw [w64 (by omega) (by omega)]; rfl
        · simp (config := { decide := true }) only [go_sem, Nat.reduceBEq, reduceIte]
      · have hlt' : ((i : Int) < (a.ths.length : Int)) = False := by rw [int_lt]; simp; omega
        simp (config := { decide := true }) only [go_sem, Int.reduceToNat, Nat.reduceAdd, Nat.reduceSub, Nat.reduceMul, Nat.reduceBEq, reduceIte, reduceCtorEq, h3, h7, h8, h9, h14, h19, hlt']
        rcases hOO with h | ⟨h, h'⟩
        · rw [h] at hO2
          refine callX_nm (hO2) rfl rfl ?_
          simp (config := { decide := true }) only [go_sem, Int.reduceToNat, Nat.reduceAdd, Nat.reduceSub, Nat.reduceMul, Nat.reduceBEq, reduceIte, reduceCtorEq, h3, h7, h8, h9, h14, h19]
        · rw [h] at hO2
          rw [h'] at hO1
          refine callX_nm (hO2) rfl rfl ?_
          simp (config := { decide := true }) only [go_sem, Int.reduceToNat, Nat.reduceAdd, Nat.reduceSub, Nat.reduceMul, Nat.reduceBEq, reduceIte, reduceCtorEq, h3, h7, h8, h9, h14, h19]
          refine callX_nm (hO1) rfl rfl ?_
          simp (config := { decide := true }) only [go_sem, Int.reduceToNat, Nat.reduceAdd, Nat.reduceSub, Nat.reduceMul, Nat.reduceBEq, reduceIte, reduceCtorEq, h3, h7, h8, h9, h14, h19]
end Go.Proofs.Yteieinhgdjjdoaa
