/- Parts of the proof: HiDg, HiDh, HiDi, HiDj, Cp, Ca. -/
import Derived.Test.YteieinhgdjjdoaaZd06
import Derived.Test.YteieinhgdjjdoaaZd08
import Derived.Test.YteieinhgdjjdoaaZd09
import Derived.Test.YteieinhgdjjdoaaZd07
set_option linter.unusedSectionVars false
set_option linter.unusedVariables false
set_option linter.unusedSimpArgs false
namespace Go.Proofs.Yteieinhgdjjdoaa
open Go.RowKit
def head (all : List Oper) (m f : Nat) (of : Oper) : List Oper := (all.take m).set f { of with op := .move (.global 0) }
theorem head_dst {all : List Oper} {m f j t : Nat} {of : Oper} (hof : all[f]? = some of) (hj : dstAt (head all m f of) j = some t) : ∃ oj, all[j]? = some oj ∧ oj.dst = some t ∧ j < m := by
  by_cases e : j = f
  · subst e
    have hlt : j < (all.take m).length := by
      unfold dstAt head at hj
      cases hx : ((all.take m).set j { of with op := .move (.global 0) })[j]? with
      | none => rw [hx] at hj; cases hj
      | some oj => have := (List.getElem?_eq_some_iff.1 hx).1; simpa using this
    have : dstAt (head all m j of) j = of.dst := by
      unfold dstAt head
      rw [List.getElem?_set_self hlt]; rfl
    rw [this] at hj
    rw [List.length_take] at hlt
    exact ⟨of, hof, hj, by omega⟩
  · have : dstAt (head all m f of) j = dstAt (all.take m) j := by
      unfold dstAt head
      rw [List.getElem?_set_ne (Ne.symm e)]
    rw [this] at hj
    exact take_dst hj
structure Pend (te : TypeId) (zc : Array Value) (w0 : World) (Z : Nat → Prop) (FP : Nat → List Nat) (w : World) (b : Nat) : Prop where
  new : w0.heap.size ≤ b
  cells : w.heap[b]? = some (.cells zc te (0, 0))
  z : ¬ Z b
  fp : ∀ id, b ∉ FP id
theorem Pend.evo {te : TypeId} {zc : Array Value} {w0 w w' : World} {Z Z' : Nat → Prop} {FP FP' : Nat → List Nat} {b : Nat} (h : Pend te zc w0 Z FP w b) (e : Evo Z FP w Z' FP' w') : Pend te zc w0 Z' FP' w' b := by
  have hlt := (Array.getElem?_eq_some_iff.1 h.cells).1
  refine ⟨h.new, (e.keep b hlt h.fp).trans h.cells, fun hz => ?_, fun id hc => ?_⟩
  · rcases e.znew b hz with h1 | h1 | ⟨id, h1⟩
    · exact h.z h1
    · omega
    · exact h.fp id h1
  · rcases e.fnew id b hc with h1 | ⟨id', h1⟩
    · omega
    · exact h.fp id' h1
def flT (f d b : Nat) (listed : Array Bool) (l : List Oper) (xs : List HV) (T0 : Nat → HV) : Nat → HV :=
  if listed.getD f false = true then upd (runM (fun k => listed.getD k false) 0 l xs T0) d (.v (.pointer (some ⟨b, 0, none⟩))) else runM (fun k => listed.getD k false) 0 l xs T0
theorem flT_ne {f d b t : Nat} {listed : Array Bool} {l : List Oper} {xs : List HV} {T0 : Nat → HV} (h : t ≠ d) : flT f d b listed l xs T0 t = runM (fun k => listed.getD k false) 0 l xs T0 t := by
  unfold flT
  split
  · simp [upd, h]
  · rfl
section go
variable {P : Program} {N L m mm B : Nat} {base : Nat × Nat} {hv : List Nat} {ro : Option Nat} {all : List Oper} {Φ : Exit → Act → World → Prop}
theorem any_float {f d : Nat} {te : TypeId} {zc : Array Value} {of : Oper} (hfm : f < m) (hof : all[f]? = some of) (hfv : hv.contains f = false) (hfd : of.dst = some d) (hdN : d < N)
    (hfr : ∀ (j : Nat) o, j ≠ f → j < m → all[j]? = some o → o.dst ≠ some d ∧ d ∉ seenT all o)
    (hrun : ∀ (a : Act) (w : World), Region.wanted of (yielded all.toArray a.tmps) = true ∧ (execOp a.eval of).run P w = .ok (.value (.pointer (some ⟨w.heap.size, 0, none⟩))) (w.alloc (.cells zc te))) (hA : AnyOk3 N m hv all) {Z0 : Nat → Prop} {G0 : List (Option OG)} {FP0 : Nat → List Nat} {ds : List Nat} {T0 : Nat → HV} {H0 : Heap} {xs : List HV} {hs : List Heap} {w0 : World} (hxf : xs[f]? = some .any) (hc0 : CertNL P base hv all 0 (head all m f of) T0 H0 xs hs) (hml : m ≤ all.length)
    (hB : ∀ Z FP w, Evo Z0 FP0 w0 Z FP w → Bo ro B FP w)
    (hend : ∀ Z G FP a w b, Pend te zc w0 Z FP w b → St N B Z G FP ds (upd (runM (fun _ => true) 0 (head all m f of) xs T0) d (.v (.pointer (some ⟨b, 0, none⟩)))) (heapAt H0 hs m) a w → GLt L G0 G → Evo Z0 FP0 w0 Z FP w → wpListIn (Wd ro) mm P all.toArray Φ (all.drop m) a w) :
    ∀ (fuel : Nat) (listed : Array Bool) (c : Nat) (Z : Nat → Prop) (G : List (Option OG)) (FP : Nat → List Nat) (a : Act) (w : World) (b : Nat), listed.size = all.length → left listed ≤ fuel → Closed all listed → (∀ j, m ≤ j → j < all.length → listed.getD j false = false) →
    c ≤ m → (∀ (j : Nat), j < m → hv.contains j = true → (listed.getD j false = true ↔ j < c)) →
    (listed.getD f false = true → Pend te zc w0 Z FP w b) → St N B Z G FP ds (flT f d b listed (head all m f of) xs T0) (heapAt H0 hs c) a w → GLt L G0 G → Evo Z0 FP0 w0 Z FP w → wpAnyIn (Wd ro) mm P .any all.toArray Φ fuel listed a w := by
  have hlm : (head all m f of).length = m := by unfold head; rw [List.length_set, List.length_take]; omega
  have fin : ∀ (listed : Array Bool) (c : Nat) (Z : Nat → Prop) (G : List (Option OG)) (FP : Nat → List Nat) (a : Act) (w : World) (b : Nat), c ≤ m → (∀ k, k < m → listed.getD k false = true) → (∀ (j : Nat), j < m → hv.contains j = true → (listed.getD j false = true ↔ j < c)) →
      (listed.getD f false = true → Pend te zc w0 Z FP w b) → St N B Z G FP ds (flT f d b listed (head all m f of) xs T0) (heapAt H0 hs c) a w → GLt L G0 G → Evo Z0 FP0 w0 Z FP w → wpListIn (Wd ro) mm P all.toArray Φ (all.drop m) a w := by
    intro listed c Z G FP a w b hcm hall hcl hpend hs' hG hE
    have hfl : listed.getD f false = true := hall f hfm
    have hTe : runM (fun k => listed.getD k false) 0 (head all m f of) xs T0 = runM (fun _ => true) 0 (head all m f of) xs T0 := by
      funext t
      refine runM_at _ _ _ _ _ rfl fun j hj => ?_
      obtain ⟨oj, h1, h2, h3⟩ := head_dst hof hj
      simp only [Nat.zero_add]
      exact hall j h3
    have hHe : heapAt H0 hs m = heapAt H0 hs c := heapAt_same hc0 m c hcm (by omega) fun j h1 h2 => by
      cases hv' : hv.contains j with
      | false => rfl
      | true => have := (hcl j h2 hv').1 (hall j h2); omega
    refine hend Z G FP a w b (hpend hfl) ?_ hG hE
    unfold flT at hs'
    rw [if_pos hfl] at hs'
    rw [← hTe, hHe]; exact hs'
  intro fuel
  induction fuel with
  | zero =>
    intro listed c Z G FP a w b hsz hf hc hm hcm hcl hpend hs' hG hE
    have hall := left_zero (Nat.le_zero.1 hf)
    have hml' : all.length ≤ m := by
      rcases Nat.lt_or_ge m all.length with h | h
      · have h1 := hm m (Nat.le_refl _) h
        rw [hall m (by omega)] at h1; cases h1
      · exact h
    have hno : Region.ready .any all.toArray listed = [] := by
      rw [List.eq_nil_iff_forall_not_mem]
      intro i hi
      obtain ⟨h1, o, ho, _⟩ := mem_ready.1 hi
      rw [List.getElem?_toArray] at ho
      have hi' := (List.getElem?_eq_some_iff.1 ho).1
      have h2 := hall i (by omega)
      rw [Array.getD_eq_getD_getElem?, not_listed h1] at h2
      simp at h2
    refine ⟨hno, ?_⟩
    have := fin listed c Z G FP a w b hcm (fun k hk => hall k (by omega)) hcl hpend hs' hG hE
    rw [List.drop_eq_nil_of_le hml'] at this
    exact this
  | succ fuel ih =>
    intro listed c Z G FP a w b hsz hf hc hm hcm hcl hpend hs' hG hE
    by_cases hall : ∀ k, k < m → listed.getD k false = true
    · have h := fin listed c Z G FP a w b hcm hall hcl hpend hs' hG hE
      refine any_tail hA.base (all.drop m) m (fuel + 1) listed a w rfl (Nat.le_refl _) hml hsz hf hc (fun i hi => ⟨fun hx => ?_, fun hx => hall i hx⟩) h
      rcases Nat.lt_or_ge i m with h' | h'
      · exact h'
      · rw [hm i h' hi] at hx; cases hx
    · have hex : ∃ k, k < m ∧ listed.getD k false = false := by
        apply Classical.byContradiction
        intro hn
        refine hall fun k h1 => ?_
        cases hx : listed.getD k false with
        | true => rfl
        | false => exact absurd ⟨k, h1, hx⟩ hn
      obtain ⟨k, ⟨hk1, hk3⟩, hkl⟩ := exists_least (p := fun k => k < m ∧ listed.getD k false = false) hex
      have hkr : k ∈ Region.ready .any all.toArray listed := ready_least hA.base hsz (by omega) hk3 (fun j hj => by
        cases hx : listed.getD j false with
        | true => rfl
        | false => have := hkl j ⟨by omega, hx⟩; omega)
      refine ⟨fun h0 => by rw [h0] at hkr; simp at hkr, fun i hi => ?_⟩
      obtain ⟨h1, o, ho, ha⟩ := mem_ready.1 hi
      rw [List.getElem?_toArray] at ho
      have hil := (List.getElem?_eq_some_iff.1 ho).1
      have hnl := not_listed h1
      have hnf : listed.getD i false = false := by rw [Array.getD_eq_getD_getElem?, hnl]; rfl
      have him : i < m := by
        rcases Nat.lt_or_ge i m with h' | h'
        · exact h'
        · have := ready_must hA.base hc hi (hA.base.ord k i _ o (by omega) (List.getElem?_eq_getElem (show k < all.length by omega)) ho (.inl h'))
          rw [hk3] at this; cases this
      have hadd := left_add hnl
      have hcl2 := closed_add hc (fun o' ho' e he hb => by rw [ho] at ho'; cases ho'; exact ha e (by simpa using he) hb)
      have hm2 : ∀ j, m ≤ j → j < all.length → (listed.setIfInBounds i true).getD j false = false := fun j h1 h2 => by
        cases hx : (listed.setIfInBounds i true).getD j false with
        | false => rfl
        | true =>
          rcases getD_set_listed hx with rfl | hx
          · omega
          · rw [hm j h1 h2] at hx; cases hx
      by_cases hif : i = f
      ·
        subst hif
        rw [hof] at ho; cases ho
        obtain ⟨hwant, hex⟩ := hrun a w
        obtain ⟨hok, hnd⟩ := hA.base.ok i of hof
        have hoT : (head all m i of)[i]? = some { of with op := .move (.global 0) } := by
          unfold head; rw [List.getElem?_set_self (by rw [List.length_take]; omega)]
        have hT : runM (fun k => (listed.setIfInBounds i true).getD k false) 0 (head all m i of) xs T0 = updO (runM (fun k => listed.getD k false) 0 (head all m i of) xs T0) of.dst .any := by
          refine runM_add (head all m i of) xs 0 i T0 { of with op := .move (.global 0) } .any hoT hxf ?_ ?_ ?_ ?_
          · simp only [Nat.zero_add]; exact getD_set_self (by omega)
          · simp only [Nat.zero_add]; exact hnf
          · intro k hk
            simp only [Nat.zero_add] at hk
            simp only [Array.getD_eq_getD_getElem?, Array.getElem?_setIfInBounds_ne (Ne.symm hk)]
          · intro k hk hS t ht hdk
            simp only [Nat.zero_add] at hS
            obtain ⟨ok, hok', hd, _⟩ := head_dst hof hdk
            have := closed_must hA.base hc k i ok hok' (hc k ok hok' hS) (hA.base.ord i k of ok hk hof hok' (.inr (by
              unfold confB
              rw [show of.dst = some t from ht]
              simp [hd])))
            rw [hnf] at this; cases this
        unfold wpOpIn
        rw [List.getElem?_toArray, hof]
        dsimp only
        rw [if_pos hwant]
        refine ⟨fun _ _ => trivial, ?_⟩
        rw [semAt_plain _ _ _ (noDefer_spec hnd), hex]
        have hsz' : w.heap.size < (w.alloc (.cells zc te)).heap.size := by simp
        have hEv : Evo Z FP w Z FP (w.alloc (.cells zc te)) := ⟨rfl, rfl, rfl, by simp, fun b hb _ => heap_alloc_old w _ hb, fun _ h => h, fun _ h => .inl h, fun id b hb => .inr ⟨id, hb⟩⟩
        have hi2 : HInv Z G FP (heapAt H0 hs c) (w.alloc (.cells zc te)) := hs'.inv.keep (by simp) (fun b hb => heap_alloc_old w _ (by
          rcases hb with hb | ⟨id, hb⟩
          · exact hs'.inv.zlt b hb
          · exact hs'.inv.flt id b hb))
        have hs2 := (hs'.evo hi2 (GLe.refl _) hEv).put (x := .v (.pointer (some ⟨w.heap.size, 0, none⟩))) (y := .pointer (some ⟨w.heap.size, 0, none⟩)) (by simp [RV]) of.dst (fun q hq => by rw [hfd] at hq; cases hq; exact hdN)
        have hTf : updO (flT i d b listed (head all m i of) xs T0) of.dst (.v (.pointer (some ⟨w.heap.size, 0, none⟩))) = flT i d w.heap.size (listed.setIfInBounds i true) (head all m i of) xs T0 := by
          unfold flT
          rw [hnf, if_neg (by simp), if_pos (getD_set_self (by omega)), hT, hfd]
          funext t
          simp only [updO, upd]
          split <;> rfl
        rw [hTf] at hs2
        refine ih (listed.setIfInBounds i true) c Z G FP _ _ w.heap.size (by simpa using hsz) (by omega) hcl2 hm2 hcm (fun j hj hv' => ?_) (fun _ => ⟨hE.size, heap_alloc_new w _, fun hz => by have := hs'.inv.zlt _ hz; omega, fun id hc => by have := hs'.inv.flt id _ hc; omega⟩) hs2 hG (hE.trans hEv)
        rw [← hcl j hj hv']
        constructor
        · intro hxx
          rcases getD_set_listed hxx with rfl | hxx
          · rw [hfv] at hv'; cases hv'
          · exact hxx
        · exact getD_set_keep
      have hoT : (head all m f of)[i]? = some o := by unfold head; rw [List.getElem?_set_ne (Ne.symm hif), List.getElem?_take, if_pos him]; exact ho
      obtain ⟨hd1, hd2⟩ := hfr i o hif him ho
      obtain ⟨x, hx, hcert⟩ := CertNL_at (head all m f of) xs hs 0 i T0 H0 o hc0 hoT
      obtain ⟨hok, hnd⟩ := hA.base.ok i o ho
      have hsee : ∀ t ∈ seenT all o, runM (fun k => decide (k < 0 + i)) 0 (head all m f of) xs T0 t = flT f d b listed (head all m f of) xs T0 t := by
        intro t ht
        rw [flT_ne (fun e => hd2 (by rw [← e]; exact ht))]
        refine runM_at _ _ _ _ _ rfl fun j hj => ?_
        obtain ⟨oj, hoj, hd, hjm⟩ := head_dst hof hj
        simp only [Nat.zero_add]
        rcases Nat.lt_trichotomy j i with h' | h' | h'
        · have := ready_must hA.base hc hi (hA.base.ord j i oj o h' hoj ho (.inr (by simp [confB, hd, ht])))
          rw [this]; simp [h']
        · subst h'; rw [hnf]; simp
        · have hjl := (List.getElem?_eq_some_iff.1 hoj).1
          cases hx : listed.getD j false with
          | false => simp; omega
          | true =>
            have := closed_must hA.base hc j i oj hoj (hc j oj hoj hx) (hA.base.ord i j o oj h' ho hoj (.inr (by
              unfold confB
              rw [hd]
              simp [ht])))
            rw [hnf] at this; cases this
      have hcert' := CertN_congr hsee hcert
      rw [Nat.zero_add] at hcert'
      have hdall : all.all (dstOk N) = true := by
        rw [List.all_eq_true]
        intro o' ho'
        obtain ⟨j', hj'⟩ := List.mem_iff_getElem?.1 ho'
        have := (hA.base.ok j' o' hj').1
        simp only [operOk, Bool.and_eq_true] at this
        exact this.1
      have heavyAt : hv.contains i = true → heapAt H0 hs c = heapAt H0 hs i ∧ c ≤ i := fun hvi => by
        have hci : c ≤ i := by
          rcases Nat.lt_or_ge i c with h | h
          · have := (hcl i him hvi).2 h; rw [hnf] at this; cases this
          · exact h
        refine ⟨(heapAt_same hc0 i c hci (by omega) fun j h1 h2 => ?_).symm, hci⟩
        cases hv' : hv.contains j with
        | false => rfl
        | true =>
          have := ready_must hA.base hc hi (hA.hv j i _ o h2 (List.getElem?_eq_getElem (show j < all.length by omega)) ho hv' hvi)
          have := (hcl j (by omega) hv').1 this
          omega
      have hquiet0 : SameTo base.1 (heapAt H0 hs i) (heapAt H0 hs c) := by
        rcases Nat.lt_or_ge i c with h | h
        · exact (heapAt_mono hc0 c i (by omega) (by omega)).1
        · intro id hid
          exact ((heapAt_mono hc0 i c h (by omega)).1 id hid).symm
      have hquiet : hv.contains i = false → SameTo (bsO hv base i) (heapAt H0 hs i) (heapAt H0 hs c) := fun hvi0 => by
        cases hod : hv.contains (1000 + i) with
        | false =>
          have : bsO hv base i = base.1 := by unfold bsO; rw [if_neg (by rw [hvi0]; simp), if_neg (by rw [hod]; simp)]
          rw [this]; exact hquiet0
        | true =>
          have : bsO hv base i = base.2 := by unfold bsO; rw [if_neg (by rw [hvi0]; simp), if_pos hod]
          rw [this]
          rcases Nat.lt_or_ge i c with h | h
          · refine (heapAt_mono2 hc0 c i (by omega) (by omega) fun j h1 h2 hv' hw => ?_).1
            have hjl : j < all.length := by omega
            have hlj := (hcl j (by omega) hv').2 h2
            rcases Nat.lt_or_ge i j with h3 | h3
            · have := closed_must hA.base hc j i all[j] (List.getElem?_eq_getElem hjl) (hc j all[j] (List.getElem?_eq_getElem hjl) hlj) (hA.od2 i j o all[j] h3 ho (List.getElem?_eq_getElem hjl) hod hw)
              rw [hnf] at this; cases this
            · obtain rfl : i = j := by omega
              rw [hnf] at hlj; cases hlj
          · intro id hid
            refine ((heapAt_mono2 hc0 i c h (by omega) fun j h1 h2 hv' hw => ?_).1 id hid).symm
            have := ready_must hA.base hc hi (hA.od1 j i _ o h2 (List.getElem?_eq_getElem (show j < all.length by omega)) ho hw hod)
            have := (hcl j (by omega) hv').1 this
            omega
      have hT : runM (fun k => (listed.setIfInBounds i true).getD k false) 0 (head all m f of) xs T0 = updO (runM (fun k => listed.getD k false) 0 (head all m f of) xs T0) o.dst x := by
        refine runM_add (head all m f of) xs 0 i T0 o x hoT hx ?_ ?_ ?_ ?_
        · simp only [Nat.zero_add]; exact getD_set_self (by omega)
        · simp only [Nat.zero_add]; exact hnf
        · intro k hk
          simp only [Nat.zero_add] at hk
          simp only [Array.getD_eq_getD_getElem?, Array.getElem?_setIfInBounds_ne (Ne.symm hk)]
        · intro k hk hS t ht hdk
          simp only [Nat.zero_add] at hS
          obtain ⟨ok, hok', hd, _⟩ := head_dst hof hdk
          have := closed_must hA.base hc k i ok hok' (hc k ok hok' hS) (hA.base.ord i k o ok hk ho hok' (.inr (by
            unfold confB
            rw [ht]
            simp [hd])))
          rw [hnf] at this; cases this
      have hTf : flT f d b (listed.setIfInBounds i true) (head all m f of) xs T0 = updO (flT f d b listed (head all m f of) xs T0) o.dst x := by
        have hfs : (listed.setIfInBounds i true).getD f false = listed.getD f false := by
          simp only [Array.getD_eq_getD_getElem?, Array.getElem?_setIfInBounds_ne hif]
        unfold flT
        rw [hfs, hT]
        cases listed.getD f false with
        | false => simp
        | true =>
          simp only [if_true]
          cases hod : o.dst with
          | none => rfl
          | some t =>
            have : t ≠ d := fun e => hd1 (by rw [hod, e])
            funext q
            simp only [updO, upd]
            by_cases e1 : q = d
            · subst e1; simp [Ne.symm this]
            · simp [e1]
      have hpend' : ∀ Z' FP' w', Evo Z FP w Z' FP' w' → ((listed.setIfInBounds i true).getD f false = true → Pend te zc w0 Z' FP' w' b) := fun Z' FP' w' hEE hxx => by
        rcases getD_set_listed hxx with rfl | hxx
        · exact absurd rfl hif
        · exact (hpend hxx).evo hEE
      cases hvi : hv.contains i with
      | true =>
        rw [hvi] at hcert'
        obtain ⟨hHc, hci⟩ := heavyAt hvi
        refine certN_run (L := L) (Hn := heapAt H0 hs (i + 1)) hdall ho hok hnd hcert' hs' (hB Z FP w hE) hG.len (fun h => by cases h) (fun _ => ⟨hHc, rfl⟩) fun Z' G' FP' a' w' hs2 hG' hE' => ?_
        refine ih (listed.setIfInBounds i true) (i + 1) Z' G' FP' a' w' b (by simpa using hsz) (by omega) hcl2 hm2 (by omega) (fun j hj hv' => ?_) (hpend' _ _ _ hE') (by rw [hTf]; exact hs2) (hG.trans hG') (hE.trans hE')
        constructor
        · intro hxx
          rcases getD_set_listed hxx with rfl | hxx
          · omega
          · have := (hcl j hj hv').1 hxx; omega
        · intro hlt
          by_cases e : j = i
          · subst e; exact getD_set_self (by omega)
          · refine getD_set_keep ?_
            exact ready_must hA.base hc hi (hA.hv j i _ o (by omega) (List.getElem?_eq_getElem (show j < all.length by omega)) ho hv' hvi)
      | false =>
        rw [hvi] at hcert'
        refine certN_run (L := L) (Hn := heapAt H0 hs c) hdall ho hok hnd hcert' hs' (hB Z FP w hE) hG.len (fun _ => ⟨rfl, hquiet hvi⟩) (fun h => by cases h) fun Z' G' FP' a' w' hs2 hG' hE' => ?_
        refine ih (listed.setIfInBounds i true) c Z' G' FP' a' w' b (by simpa using hsz) (by omega) hcl2 hm2 hcm (fun j hj hv' => ?_) (hpend' _ _ _ hE') (by rw [hTf]; exact hs2) (hG.trans hG') (hE.trans hE')
        rw [← hcl j hj hv']
        constructor
        · intro hxx
          rcases getD_set_listed hxx with rfl | hxx
          · rw [hvi] at hv'; cases hv'
          · exact hxx
        · exact getD_set_keep
end go
section
variable {P : Program} {N L : Nat} {base : Nat × Nat} {hv : List Nat} {Q : Exit → KS} {H : Heap}
def floatOk (N m f : Nat) (hv : List Nat) (all : List Oper) : Bool :=
  match all[f]? with
  | some of => decide (f < m) && !hv.contains f && (match of.guard with | none => true | some _ => false) &&
    (match of.dst, of.op with
    | some d, .alloc _ => decide (d < N) && (all.take m).zipIdx.all fun (o, j) => j == f || ((match o.dst with | some t => t != d | none => true) && !(seenT all o).contains d)
    | _, _ => false)
  | none => false
def nameFl (P : Program) (k : KS) (of : Oper) : KS := fun T H =>
  match of.op with
  | .alloc t => onR (ralloc P H t) fun x H' => k (updO T of.dst x) H'
  | _ => False
theorem HW.float {id : Nat} {all : List Oper} {T : Nat → HV} (n m : Nat) (base : Nat × Nat) (hv : List Nat) (f : Nat) (of : Oper) (hm : P.follows .mixedOrders = true) (hB : anyB3 N m hv all = true) (hml : m ≤ all.length) (hof : all[f]? = some of) (hF : floatOk N m f hv all = true)
    (h : exM P base hv all (nameFl P (ex P N L Q n [.ops all (all.drop m)]) of) 0 (head all m f of) T H) : HW P N L (.region id all.toArray true) Q T H := by
  unfold floatOk at hF
  rw [hof] at hF
  simp only [Bool.and_eq_true, decide_eq_true_eq, Bool.not_eq_true'] at hF
  obtain ⟨⟨⟨hfm, hfv⟩, hg⟩, hF⟩ := hF
  have hg : of.guard = none := by
    split at hg
    · assumption
    · cases hg
  split at hF
  case h_2 => cases hF
  rename_i d t hd hop
  simp only [Bool.and_eq_true, decide_eq_true_eq] at hF
  obtain ⟨hdN, hF⟩ := hF
  have hfr : ∀ (j : Nat) o, j ≠ f → j < m → all[j]? = some o → o.dst ≠ some d ∧ d ∉ seenT all o := by
    intro j o hj hjm ho
    have hmem : (o, j) ∈ (all.take m).zipIdx := by
      rw [List.mem_zipIdx_iff_getElem?, List.getElem?_take, if_pos hjm]; exact ho
    have := List.all_eq_true.1 hF (o, j) hmem
    simp only [Bool.or_eq_true, beq_iff_eq, Bool.and_eq_true, Bool.not_eq_true'] at this
    rcases this with h | ⟨h1, h2⟩
    · exact absurd h hj
    · refine ⟨fun e => ?_, fun hc => ?_⟩
      · rw [e] at h1; simp at h1
      · have : (seenT all o).contains d = true := by simpa using hc
        rw [this] at h2; cases h2
  obtain ⟨xs, hs, hc, hex⟩ := exM_cert (head all m f of) 0 T H h
  have hlm : (head all m f of).length = m := by unfold head; rw [List.length_set, List.length_take]; omega
  rw [hlm] at hex
  have hxf : xs[f]? = some .any := by
    obtain ⟨x, hx, hN⟩ := CertNL_at (head all m f of) xs hs 0 f T H { of with op := .move (.global 0) } hc (by unfold head; rw [List.getElem?_set_self (by rw [List.length_take]; omega)])
    rw [Nat.zero_add, hfv] at hN
    unfold CertN at hN
    simp only [hg] at hN
    unfold CertE at hN
    simp only [Bool.false_eq_true, if_false] at hN
    rcases hN.1 with ⟨p, H0, hp, hr, _⟩ | ⟨g, args, tys, fid, caps, R, e, _⟩ | ⟨rv, name, args, tys, t, y, fid, R, e, _⟩ | ⟨t, len, parts, p, H0, e, _⟩
    · have : ropQ P (runM (fun k => decide (k < f)) 0 (head all m f of) xs T) (heapAt H hs f) (.move (.global 0)) = some (True, .any, heapAt H hs f) := rfl
      rw [this] at hr
      simp only [Option.some.injEq, Prod.mk.injEq] at hr
      rw [hx, hr.2.1]
    · cases e
    · cases e
    · cases e
  unfold nameFl at hex
  rw [hop] at hex
  obtain ⟨ty, hty, hex⟩ := bindO_spec hex
  obtain ⟨cs, hcs, hex⟩ := bindO_spec hex
  obtain ⟨z, hz, rfl, hz1, hzs⟩ := zcells_spec hcs
  have hex := hex.2
  intro ro mm B Z G FP ds a w hB' hL hst
  have hA := anyB3_spec hB
  have hEv : Evo Z FP w Z FP { w with drawn := w.drawn + 1 } := ⟨rfl, rfl, rfl, Nat.le_refl _, fun _ _ _ => rfl, fun _ h => h, fun _ h => .inl h, fun id b hb => .inr ⟨id, hb⟩⟩
  have hi : HInv Z G FP H { w with drawn := w.drawn + 1 } := hst.inv.keep (Nat.le_refl _) (fun _ _ => rfl)
  have hs' := hst.evo hi (GLe.refl _) hEv
  have hallok : (all.all fun o => operOk N o && noDefer o) = true := by
    rw [List.all_eq_true]
    intro o ho
    obtain ⟨j, hj⟩ := List.mem_iff_getElem?.1 ho
    have := hA.base.ok j o hj
    simp [this.1, this.2]
  have hdrop : ((all.drop m).all fun o => operOk N o && noDefer o) = true := by
    rw [List.all_eq_true]
    intro o ho
    exact List.all_eq_true.1 hallok o (List.mem_of_mem_drop ho)
  refine wpIn_region_any hm ?_
  refine any_float (m := m) (B := B) (L := L) (Z0 := Z) (G0 := G) (FP0 := FP) (ds := ds) (w0 := w) (te := t) (zc := z.cells) hfm hof hfv hd hdN hfr (fun a w => ⟨by simp [Region.wanted, hg], by simp only [execOp, hop, Instr.alloc, Sem.run_bind, run_zeroValue hty hz, Result.andThen_ok, newVar, newRow]; simp⟩) hA hxf hc hml (fun Z' FP' w' hE => hB'.evo hE) ?_ _ _ 0 Z G FP _ _ 0 (by simp) ?_ ?_ (fun j h1 h2 => ?_) (Nat.zero_le _) (fun j hj hv => ?_) (fun hx => ?_) ?_ (GLt.refl hL) hEv
  · intro Z1 G1 FP1 a1 w1 b hp hs1 hG1 hE1
    have hlt := (Array.getElem?_eq_some_iff.1 hp.cells).1
    have hlen := hs1.inv.len
    have hob : OB Z1 (G1 ++ [some ⟨some b, t, ty.size, 1, 1⟩]) w1 ⟨t, ty.size, [z.cells.toList.map .v]⟩ ⟨some b, t, ty.size, 1, 1⟩ [b] := by
      refine ⟨rfl, rfl, rfl, by simp [hzs], .inr (.inl ⟨b, z.cells, [], rfl, rfl, hp.cells, by simp [hzs], by simp, by simp [maxLen], ?_⟩)⟩
      refine (RR_iff hp.cells _ 0 [] (Nat.zero_le _)).2 ⟨by simp, ?_, ?_⟩
      · simp only [List.flatten_cons, List.flatten_nil, List.append_nil, List.length_map, List.drop_zero]
        rw [List.take_of_length_le (Nat.le_refl _)]
        exact RL_vs _ _ _ _
      · simp only [List.drop_zero]
        intro y hy
        exact hz1 y (List.mem_of_mem_take hy)
    have hnew := hs1.inv.new (Nat.le_refl _) (fun _ _ => rfl) hob (by simp) (fun b' hb' => by
      obtain rfl := List.mem_singleton.1 hb'
      exact ⟨hp.z, hlt, hp.fp⟩)
    have hE2 : Evo Z FP w Z1 (fun j => if j = (heapAt H hs m).length then [b] else FP1 j) w1 := by
      refine ⟨hE1.os, hE1.tape, hE1.output, hE1.size, hE1.keep, hE1.zle, hE1.znew, fun id b' hb' => ?_⟩
      by_cases e : id = (heapAt H hs m).length
      · simp only [if_pos e, List.mem_singleton] at hb'
        subst hb'; exact .inl hp.new
      · simp only [if_neg e] at hb'
        exact hE1.fnew id b' hb'
    have hptr : RV Z1 (G1 ++ [some ⟨some b, t, ty.size, 1, 1⟩]) w1 (.pt (heapAt H hs m).length 1 0 0) (.pointer (some ⟨b, 0, none⟩)) [] := by
      simp only [RV]
      rw [← hlen]
      refine ⟨trivial, rfl, by simp, fun g hg => ?_⟩
      simp at hg; subst hg
      exact ⟨Nat.le_refl _, fun _ => ⟨b, rfl, by simp⟩⟩
    have hs2 : St N B Z1 (G1 ++ [some ⟨some b, t, ty.size, 1, 1⟩]) (fun j => if j = (heapAt H hs m).length then [b] else FP1 j) ds (updO (runM (fun _ => true) 0 (head all m f of) xs T) of.dst (.pt (heapAt H hs m).length 1 0 0)) (heapAt H hs m ++ [some ⟨t, ty.size, [z.cells.toList.map .v]⟩]) a1 w1 := by
      refine ⟨hnew, hs1.size, fun i hi => ?_, hs1.defers, hs1.dsn, fun q hq => ?_⟩
      · have := hs1.tmps i hi
        rw [hd]
        simp only [updO, upd] at this ⊢
        split
        · rename_i e
          rw [if_pos e] at this
          rw [RV_v this]
          exact hptr
        · rename_i e
          rw [if_neg e] at this
          exact RV.nil_keep (fun _ _ => rfl) (fun _ h => h) (GLe.more _) this
      · obtain ⟨q1, q2, q3, q4⟩ := hs1.dsat q hq
        refine ⟨q1, q2, q3, fun id hc => ?_⟩
        by_cases e : id = (heapAt H hs m).length
        · simp only [if_pos e, List.mem_singleton] at hc
          subst hc
          rw [hp.cells] at q2; cases q2
        · simp only [if_neg e] at hc
          exact q4 id hc
    have := ex_run n [.ops all (all.drop m)] _ _ hex (by simp [itemOk, hallok, hdrop]) ro mm B Z G FP w Z1 _ _ ds a1 w1 (hB'.evo hE2) hs2 (hG1.trans (GLt.of hG1.len (GLe.more _))) hE2
    simp only [M] at this
    exact this
  · have : ∀ k : Nat, left (Array.replicate k false) = k := by intro k; simp [left]
    rw [this]; simp
  · intro j o hj hl
    exfalso
    have hjl := (List.getElem?_eq_some_iff.1 hj).1
    simp [Array.getD_eq_getD_getElem?, hjl] at hl
  · simp [Array.getD_eq_getD_getElem?, h2]
  · simp [Array.getD_eq_getD_getElem?, show j < all.length by omega]
  · exfalso
    simp [Array.getD_eq_getD_getElem?, show f < all.length by omega] at hx
  · have e : runM (fun k => (Array.replicate all.toArray.size false).getD k false) 0 (head all m f of) xs T = T := by
      funext t
      rw [runM_no]
      intro j _
      simp only [Array.getD_eq_getD_getElem?]
      by_cases hlt : 0 + j < all.toArray.size
      · have : 0 + j < all.length := by simpa using hlt
        rw [Array.getElem?_eq_getElem (by simpa using hlt)]
        simp
      · rw [Array.getElem?_eq_none (by simpa using hlt)]; rfl
    unfold flT
    rw [if_neg (by simp [Array.getD_eq_getD_getElem?, show f < all.length by omega]), e]
    exact hs'
theorem nameFl_alloc {k : KS} {d : Option Nat} {t ty : TypeId} {pos : String} {af : Array Edge} {g : Option (Nat × Bool)} {T : Nat → HV} : nameFl P k { dst := d, op := .alloc t, type := ty, pos := pos, after := af, guard := g } T H = onR (ralloc P H t) fun x H' => k (updO T d x) H' := rfl
theorem onR_some {p : Prop} {x : HV} {H' : Heap} {K : KT} : onR (some (p, x, H')) K = (p ∧ K x H') := rfl
theorem hev_global {T : Nat → HV} {g : Nat} : hev T (.global g) = .any := rfl
attribute [go_sem] nameFl_alloc onR_some hev_global head
end
end Go.Proofs.Yteieinhgdjjdoaa
namespace Go.Proofs.Yteieinhgdjjdoaa
open Go.RowKit
section
variable {N L : Nat} {T : Nat → HV} {H : Heap}
theorem Ghost.freeze (i n j q o : Nat) {ob : HObj} {row : List HV} (hi : T i = .pt n j q o) (ho : H[n]? = some (some ob)) (hj : j = ob.rows.length) (hq : ob.rows[q]? = some row) : Ghost N L T H (upd T i (.fp (fzoR ob.rows) q o)) (H.set n none) := fun B Z G FP ds a w hL hs => by
  have hk := hs.inv.freeze n
  have hG : GLe G (G.set n none) := GLe.kill n
  have hE : Evo Z FP w (Zid Z FP n) (fun j => if j = n then [] else FP j) w := evo_freeze n
  have hs' := hs.evo hk hG hE
  refine ⟨_, _, _, ⟨hs'.inv, hs'.size, fun c hc => ?_, hs'.defers, hs'.dsn, hs'.dsat⟩, GLt.of hL hG, hE⟩
  unfold upd
  split
  · rename_i e
    subst e
    have h0 := hs.tmps c hc
    rw [hi] at h0
    obtain ⟨g, b, cells, f, hg, hOB, hb, e2, e3, e4, e5, e6, e7, hy, hrl⟩ := pt_at hs.inv ho hj hq h0
    rw [hy]
    simp only [RV]
    have hrow : rowLen (fzoR ob.rows) = ob.sz := by
      cases hr : ob.rows with
      | nil => rw [hr] at hq; cases hq
      | cons r0 rs =>
        have := hOB.len r0 (by rw [hr]; simp)
        simp only [fzoR, rowLen, List.headD_cons]
        rw [fzoL_length]; exact this
    refine ⟨trivial, b, 0, by rw [hrow, Nat.zero_add], .inr (by rw [e2]; simp), ?_, ?_⟩
    · refine uni_len (sz := ob.sz) fun r hr => ?_
      rw [fzoR_get] at hr
      obtain ⟨r', hr', rfl⟩ := List.mem_map.1 hr
      rw [fzoL_length]; exact hOB.len r' hr'
    · exact fzoR_spec ob.rows G b 0 f ⟨fun b hb => .inl hb, fun b hb => .inr (by rw [e2]; simp [hb])⟩ e7
  · exact hs'.tmps c hc
end
end Go.Proofs.Yteieinhgdjjdoaa
namespace Go.Proofs.Yteieinhgdjjdoaa
open Go.RowKit
inductive Plan where
  | leaf
  | stop
  | light (i : Nat) (p : Plan)
  | heavy (j : Nat) (keep : List Nat) (p q : Plan)
def noCall : Op → Bool
  | .call { callee := .value _, args := _, argTypes := _ } => false
  | .call { callee := .invoke _ _, args := _, argTypes := _ } => false
  | _ => true
def callFree (all : List Oper) (i : Nat) : Bool := match all[i]? with | some o => noCall o.op | none => false
def dm (Ls Ss : List Nat) (k : Nat) : Bool := Ls.contains k || Ss.contains k
def Plan.chk (all : List Oper) (bs : List Nat) : Plan → List Nat → List Nat → List Nat → Bool
  | .leaf, Ls, Ss, alts => alts.isEmpty && (List.range all.length).all fun i => dm Ls Ss i
  | .stop, Ls, Ss, alts => !alts.isEmpty && (List.range all.length).all fun i => dm Ls Ss i || alts.contains i || (List.range all.length).any fun k => !dm Ls Ss k && mustB bs k i
  | .light i p, Ls, Ss, alts => alts.isEmpty && decide (i < all.length) && !dm Ls Ss i && callFree all i && ((List.range all.length).all fun k => !mustB bs k i || dm Ls Ss k) && p.chk all bs (i :: Ls) Ss []
  | .heavy j keep p q, Ls, Ss, alts => decide (j < all.length) && !dm Ls Ss j && ((List.range all.length).all fun k => !mustB bs k j || dm Ls Ss k) && (Ls.all fun i => mustB bs i j || keep.contains i) && p.chk all bs Ls (j :: Ss) [] && q.chk all bs Ls Ss (j :: alts)
def idsV : HV → List Nat
  | .hd i _ _ => [i]
  | .pt i _ _ _ => [i]
  | _ => []
def idsO (T : Nat → HV) (op : Op) : List Nat :=
  if indep op = true then [] else match op with
  | .buildSlice .. => []
  | op => op.operands.toList.flatMap fun y => idsV (hev T y)
def sameAt (H H' : Heap) : List Nat → Prop
  | [] => True
  | i :: l => getO H' i = getO H i ∧ sameAt H H' l
def agree1 (H H' : Heap) (ids : List Nat) : Bool → Prop
  | true => sameAt H H' ids
  | false => True
def agreeK (keep : List Nat) (H H' : Heap) : List (Nat × List Nat) → Prop
  | [] => True
  | e :: rd => agree1 H H' e.2 (keep.contains e.1) ∧ agreeK keep H H' rd
def nthO : List Oper → Nat → Option Oper
  | [], _ => none
  | o :: _, 0 => some o
  | _ :: l, i + 1 => nthO l i
theorem nthO_eq : ∀ (l : List Oper) (i : Nat), nthO l i = l[i]?
  | [], _ => by simp [nthO]
  | o :: l, 0 => rfl
  | o :: l, i + 1 => by simp only [nthO, List.getElem?_cons_succ]; exact nthO_eq l i
def atO (r : Option Oper) (f : Oper → Prop) : Prop := match r with | some o => f o | none => False
def withI (ids : List Nat) (f : List Nat → Prop) : Prop := f ids
def withH (H : Heap) (f : Heap → Prop) : Prop := f H
def exT (P : Program) (all : List Oper) (K : KS) : Plan → List (Nat × List Nat) → KS
  | .leaf, _ => K
  | .stop, _ => fun _ _ => True
  | .light i p, rd => fun T H => atO (nthO all i) fun o => withI (idsO T o.op) fun ids => exGq (fun _ T' _ => exT P all K p ((i, ids) :: rd) T' H) P all o [] [] T H
  | .heavy j keep p q, rd => fun T H => (atO (nthO all j) fun o => exG (fun _ T' H' => withH H' fun H' => agreeK keep H H' rd ∧ exT P all K p rd T' H') P all o [] [] T H) ∧ exT P all K q rd T H
section
variable {P : Program} {all : List Oper}
theorem must_lt {N m : Nat} (hA : AnyOk N m all) : ∀ (j i : Nat), j < all.length → mustB (befs all []) i j = true → i < j := by
  intro j
  induction j using Nat.strongRecOn with
  | _ j ih =>
    intro i hj hm
    unfold mustB at hm
    obtain ⟨e, he, h1, h2⟩ := befs_spec all [] j _ (List.getElem?_eq_getElem hj) (by simpa using hm)
    have hlt := hA.back j _ (List.getElem?_eq_getElem hj) e he h1
    rcases h2 with rfl | h2
    · exact hlt
    · have := ih e.on hlt i (by omega) h2
      omega
theorem runM_xs {S : Nat → Bool} : ∀ (l : List Oper) (xs xs' : List HV) (i : Nat) (T : Nat → HV), xs.length = xs'.length → (∀ j, S (i + j) = true → xs[j]? = xs'[j]?) → runM S i l xs T = runM S i l xs' T
  | [], xs, xs', i, T, _, _ => by cases xs <;> cases xs' <;> rfl
  | o :: l, [], xs', i, T, hl, _ => by
    obtain rfl : xs' = [] := by cases xs' with | nil => rfl | cons => simp at hl
    rfl
  | o :: l, x :: xs, [], i, T, hl, _ => by simp at hl
  | o :: l, x :: xs, x' :: xs', i, T, hl, h => by
    simp only [runM]
    have e : (if S i = true then updO T o.dst x else T) = if S i = true then updO T o.dst x' else T := by
      split
      · rename_i hs
        have := h 0 (by rw [Nat.add_zero]; exact hs)
        simp only [List.getElem?_cons_zero, Option.some.injEq] at this
        rw [this]
      · rfl
    rw [e]
    exact runM_xs l xs xs' (i + 1) _ (by simpa using hl) fun j hj => by
      have := h (j + 1) (by rw [show i + (j + 1) = i + 1 + j by omega]; exact hj)
      simpa using this
def vals (n : Nat) (f : Nat → HV) : List HV := (List.range n).map f
theorem vals_get {n j : Nat} {f : Nat → HV} (h : j < n) : (vals n f)[j]? = some (f j) := by simp [vals, h]
theorem vals_len {n : Nat} {f : Nat → HV} : (vals n f).length = n := by simp [vals]
def tvS (all : List Oper) (S : Nat → Bool) (f : Nat → HV) (T0 : Nat → HV) : Nat → HV := runM S 0 all (vals all.length f) T0
variable {S S' : Nat → Bool} {f f' : Nat → HV} {T0 : Nat → HV}
theorem tvS_f (h : ∀ j, j < all.length → S j = true → f j = f' j) : tvS all S f T0 = tvS all S f' T0 := by
  unfold tvS
  refine runM_xs all _ _ 0 T0 (by rw [vals_len, vals_len]) fun j hj => ?_
  rw [Nat.zero_add] at hj
  by_cases hl : j < all.length
  · rw [vals_get hl, vals_get hl, h j hl hj]
  · rw [List.getElem?_eq_none (by rw [vals_len]; omega), List.getElem?_eq_none (by rw [vals_len]; omega)]
theorem tvS_at {t : Nat} (h : ∀ (j : Nat) o, all[j]? = some o → o.dst = some t → S j = S' j) : tvS all S f T0 t = tvS all S' f T0 t := by
  unfold tvS
  refine runM_at _ _ _ _ _ rfl fun j hj => ?_
  unfold dstAt at hj
  cases ho : all[j]? with
  | none => rw [ho] at hj; cases hj
  | some o =>
    rw [ho] at hj
    rw [Nat.zero_add]
    exact h j o ho hj
theorem tvS_add {j : Nat} {o : Oper} (ho : all[j]? = some o) (h1 : S' j = true) (h2 : S j = false) (h3 : ∀ k, k ≠ j → S' k = S k) (h4 : ∀ (k : Nat) ok, j < k → S k = true → all[k]? = some ok → ∀ t, o.dst = some t → ok.dst ≠ some t) : tvS all S' f T0 = updO (tvS all S f T0) o.dst (f j) := by
  have hl := (List.getElem?_eq_some_iff.1 ho).1
  unfold tvS
  refine runM_add all _ 0 j T0 o (f j) ho (vals_get hl) (by rw [Nat.zero_add]; exact h1) (by rw [Nat.zero_add]; exact h2) (fun k hk => h3 k (by omega)) fun k hk hS t ht hd => ?_
  unfold dstAt at hd
  cases hok : all[k]? with
  | none => rw [hok] at hd; cases hd
  | some ok =>
    rw [hok] at hd
    exact h4 k ok hk (by rw [Nat.zero_add] at hS; exact hS) hok t ht hd
theorem sameAt_spec {H H' : Heap} : ∀ {l : List Nat}, sameAt H H' l → ∀ i ∈ l, getO H' i = getO H i
  | [], _, i, h => by simp at h
  | j :: l, hs, i, h => by
    rcases List.mem_cons.1 h with rfl | h
    · exact hs.1
    · exact sameAt_spec hs.2 i h
theorem agreeK_spec {keep : List Nat} {H H' : Heap} : ∀ {rd : List (Nat × List Nat)}, agreeK keep H H' rd → ∀ e ∈ rd, keep.contains e.1 = true → ∀ i ∈ e.2, getO H' i = getO H i
  | [], _, e, h => by simp at h
  | a :: rd, hs, e, h => by
    rcases List.mem_cons.1 h with rfl | h
    · intro hk
      have h1 := hs.1
      rw [hk] at h1
      exact sameAt_spec h1
    · exact agreeK_spec hs.2 e h
theorem nmed_ids {x : HV} {i : Nat} (h : nmed i x) : i ∈ idsV x := by
  cases x <;> simp only [nmed] at h <;> simp [idsV, h]
theorem CertO_ids {T : Nat → HV} {H H' : Heap} {op : Op} {x : HV} (hn : noCall op = true) (hs : ∀ i ∈ idsO T op, getO H' i = getO H i) (hc : CertO P T H op x) : CertO P T H' op x := by
  rcases hc with ⟨p, H0, hp, hr⟩ | ⟨f, args, tys, fid, caps, n, R, args', rfl, _⟩ | ⟨rv, name, args, tys, t, y, fid, n, R, args', rfl, _⟩ | ⟨t, len, parts, p, H0, rfl, hp, hr⟩
  · have hR : RRel (ropQ P T H op) (ropQ P T H' op) := by
      by_cases hi : indep op = true
      · exact ropQ_indep hi
      · refine ropQ_agr fun y hy id hid ob ho => ?_
        have : id ∈ idsO T op := by
          unfold idsO
          rw [if_neg hi]
          split
          · unfold ropQ at hr; cases hr
          · exact List.mem_flatMap.2 ⟨y, hy, nmed_ids hid⟩
        rw [hs id this]; exact ho
    obtain ⟨p', H0', hp', hr'⟩ := hR p x H0 hp hr
    exact .inl ⟨p', H0', hp', hr'⟩
  · simp [noCall] at hn
  · simp [noCall] at hn
  · exact .inr (.inr (.inr ⟨t, len, parts, p, H', rfl, hp, rbuildSliceF_congr (fun _ _ => rfl) hr⟩))
theorem CertG_ids {T : Nat → HV} {H H' : Heap} {o : Oper} {x : HV} (hn : noCall o.op = true) (hs : ∀ i ∈ idsO T o.op, getO H' i = getO H i) (hc : CertG P all T H o x) : CertG P all T H' o x := by
  unfold CertG at hc ⊢
  split at hc
  · exact CertO_ids hn hs hc
  · obtain ⟨t, ht, ⟨c, h1, h2, h3⟩ | hc⟩ := hc
    · exact ⟨t, ht, .inl ⟨c, h1, fun e => CertO_ids hn hs (h2 e), h3⟩⟩
    · exact ⟨t, ht, .inr hc⟩
theorem idsO_congr {T T' : Nat → HV} {op : Op} (h : ∀ y ∈ op.operands.toList, hev T y = hev T' y) : idsO T op = idsO T' op := by
  unfold idsO
  split
  · rfl
  · split
    · rfl
    · have : ∀ (l : List Operand), (∀ y ∈ l, hev T y = hev T' y) → l.flatMap (fun y => idsV (hev T y)) = l.flatMap fun y => idsV (hev T' y) := by
        intro l
        induction l with
        | nil => intro _; rfl
        | cons a l ih =>
          intro h
          simp only [List.flatMap_cons]
          rw [h a (by simp), ih fun y hy => h y (by simp [hy])]
      exact this _ h
def shiftK (T T' : Nat → HV) (d : Option Nat) (kk : KS) : KS := fun T1 H1 => ∃ x, T1 = updO T' d x ∧ kk (updO T d x) H1
theorem exO_shift {kk : KS} {d : Option Nat} {op : Op} {T T' : Nat → HV} {H : Heap} (h : ∀ y ∈ op.operands.toList, hev T y = hev T' y) (hx : exO (fun _ => kk) P all d op [] [] T H) : exO (fun _ => shiftK T T' d kk) P all d op [] [] T' H := by
  unfold exO at hx ⊢
  split at hx
  · rename_i f args tys
    have e1 := h f (by simp [Op.operands, Call.operands])
    have e2 : args.toList.map (hev T) = args.toList.map (hev T') := hevs_congr fun x hx => h x (by simp [Op.operands, Call.operands]; exact .inr (by simpa using hx))
    rw [← e1, ← e2]
    unfold exCall at hx ⊢
    split at hx
    · obtain ⟨Q, h1, h2⟩ := hx
      exact ⟨Q, h1, fun x H' hq hl => ⟨_, rfl, h2 x H' hq hl⟩⟩
    · obtain ⟨Kb, h1, h2⟩ := hx
      exact ⟨Kb, h1, fun b H' hq hl => ⟨_, rfl, h2 b H' hq hl⟩⟩
    · exact hx.elim
  · rename_i rv name args tys
    have e1 := h rv (by simp [Op.operands, Call.operands])
    have e2 : args.toList.map (hev T) = args.toList.map (hev T') := hevs_congr fun x hx => h x (by simp [Op.operands, Call.operands]; exact .inr (by simpa using hx))
    rw [← e1, ← e2]
    unfold exInv at hx ⊢
    split at hx
    · unfold exInv2 at hx ⊢
      split at hx
      · obtain ⟨Q, h1, h2⟩ := hx
        exact ⟨Q, h1, fun x H' hq hl => ⟨_, rfl, h2 x H' hq hl⟩⟩
      · exact hx.elim
    · exact hx.elim
  · unfold exR at hx ⊢
    rw [← rop_congr h]
    cases hr : rop P T H op with
    | none => rw [hr] at hx; exact hx.elim
    | some q =>
      obtain ⟨p, x, H'⟩ := q
      rw [hr] at hx
      exact ⟨hx.1, x, rfl, hx.2⟩
theorem exG_shift {kk : KS} {o : Oper} {T T' : Nat → HV} {H : Heap} (h : ∀ t ∈ seenT all o, T t = T' t) (hx : exG (fun _ => kk) P all o [] [] T H) : exG (fun _ => shiftK T T' o.dst kk) P all o [] [] T' H := by
  have hv := seen_hev h
  unfold exG at hx ⊢
  split at hx
  · exact exO_shift hv hx
  · rename_i j b hg
    unfold exB at hx ⊢
    split at hx
    · rename_i t ht
      have e : T t = T' t := h t (by unfold seenT; rw [hg]; simp [ht])
      rw [← e]
      unfold exB2 at hx ⊢
      split at hx
      · exact ⟨fun hc => exO_shift hv (hx.1 hc), fun hc => ⟨_, rfl, hx.2 hc⟩⟩
      · exact ⟨_, rfl, hx⟩
      · exact hx.elim
    · exact hx.elim
end
section
variable {P : Program} {N L B mm : Nat} {all : List Oper} {Z : Nat → Prop} {G : List (Option OG)} {FP : Nat → List Nat} {ds : List Nat} {T : Nat → HV} {H : Heap} {a : Act} {w : World} {ro : Option Nat}
theorem exO_HO {kk : KS} {o : Oper} (hok : operOk N o = true) (hn : noDefer o = true) (h : exO (fun _ => kk) P all o.dst o.op [] [] T H) : HO P N L o T H kk := by
  have hnd := noDefer_spec hn
  have hdst : ∀ i, o.dst = some i → i < N := fun i hi => by
    have := hok; simp only [operOk, dstOk, hi, Bool.and_eq_true, decide_eq_true_eq] at this; exact this.1
  unfold exO at h
  split at h
  · rename_i f args tys hop
    unfold exCall at h
    split at h
    · rename_i fid caps hf
      obtain ⟨Q', hc, hk⟩ := h
      exact HO_call (K := kk) hop hok hf hc hk
    · rename_i id hf
      obtain ⟨Kb, hc, hk⟩ := h
      exact HO_yield (K := kk) hop hok hf hc hk
    · exact h.elim
  · rename_i rv name args tys hop
    unfold exInv at h
    split at h
    · rename_i t x hf
      unfold exInv2 at h
      split at h
      · rename_i fid hm
        obtain ⟨Q', hc, hk⟩ := h
        exact HO_invoke (K := kk) hop hok hf hm hc hk
      · exact h.elim
    · exact h.elim
  · exact HO_of_HR (K := kk) hnd hdst (HR_rop hok h)
theorem exG_run {kk : KS} {j : Nat} {o : Oper} {K : Act → World → Prop} {Q' : Exit → Act → World → Prop} (hall : all.all (dstOk N) = true) (hj : all[j]? = some o) (hok : operOk N o = true) (hn : noDefer o = true) (h : exG (fun _ => kk) P all o [] [] T H)
    (hs : St N B Z G FP ds T H a w) (hB : Bo ro B FP w) (hL : L ≤ G.length)
    (hK : ∀ T' H' Z' G' FP' a' w', kk T' H' → St N B Z' G' FP' ds T' H' a' w' → GLt L G G' → Evo Z FP w Z' FP' w' → K a' w') : wpOpIn (Wd ro) mm P all.toArray Q' j K a w := by
  have hdst : ∀ i, o.dst = some i → i < N := fun i hi => by
    have := hok; simp only [operOk, dstOk, hi, Bool.and_eq_true, decide_eq_true_eq] at this; exact this.1
  have run : exO (fun _ => kk) P all o.dst o.op [] [] T H → o.wpIn (Wd ro) mm P a w K Q' := fun hM => by
    refine exO_HO (L := L) hok hn hM ro mm B Z G FP ds a w hB hL hs K Q' ?_
    rintro a' w' ⟨T2, H2, Z', G', FP', hk, hs', hG', hE'⟩
    exact hK T2 H2 Z' G' FP' a' w' hk hs' hG' hE'
  have noRun : kk (updO T o.dst (.v undef)) H → K (a.put o.dst undef) w := fun hk =>
    hK _ _ _ _ _ _ _ hk (hs.drop o.dst hdst) (GLt.refl hL) (Evo.refl _ _ _)
  unfold wpOpIn
  rw [List.getElem?_toArray, hj]
  dsimp only
  unfold exG at h
  split at h
  · rename_i hg
    simp only [Region.wanted, hg, if_true]
    exact run h
  · rename_i k b hg
    unfold exB at h
    split at h
    · rename_i t ht
      unfold exB2 at h
      split at h
      · rename_i c h1
        have hy : yielded all.toArray a.tmps k = some c := hs.yields hall (by rw [dstAt_gval ht]; exact h1)
        have hw : Region.wanted o (yielded all.toArray a.tmps) = (c == b) := by
          simp only [Region.wanted, hg, hy]
          cases c <;> cases b <;> rfl
        rw [hw]
        by_cases hcb : c = b
        · rw [if_pos (by simp [hcb])]
          exact run (h.1 hcb)
        · have hc : c = (!b) := by cases c <;> cases b <;> simp_all
          rw [if_neg (by simp [hcb])]
          exact ⟨fun _ _ => trivial, noRun (h.2 hc)⟩
      · rename_i ts h1
        have hy : yielded all.toArray a.tmps k = none := hs.yieldsNo hall (by rw [dstAt_gval ht]; exact h1)
        have hw : Region.wanted o (yielded all.toArray a.tmps) = false := by
          simp only [Region.wanted, hg, hy]
          cases b <;> rfl
        rw [hw, if_neg (by simp)]
        exact ⟨fun _ _ => trivial, noRun h⟩
      · exact h.elim
    · exact h.elim
end
section
variable {P : Program} {N L B mm : Nat} {all : List Oper} {K : KS} {T0 : Nat → HV}
theorem dm_cons {i k : Nat} {Ls Ss : List Nat} : dm (i :: Ls) Ss k = (k == i || dm Ls Ss k) := by
  simp only [dm, List.contains_cons, Bool.or_assoc]
theorem dm_cons' {i k : Nat} {Ls Ss : List Nat} : dm Ls (i :: Ss) k = (k == i || dm Ls Ss k) := by
  simp only [dm, List.contains_cons]
  cases (k == i) <;> cases Ls.contains k <;> simp
structure NodeI (P : Program) (N : Nat) (all : List Oper) (K : KS) (T0 : Nat → HV) (p : Plan) (Ls Ss : List Nat) (rd : List (Nat × List Nat)) (f : Nat → HV) (T : Nat → HV) (H : Heap) (lst : Nat → Bool) : Prop where
  chk : p.chk all (befs all []) Ls Ss [] = true
  run : exT P all K p rd T H
  teq : T = tvS all (dm Ls Ss) f T0
  closed : ∀ i k, dm Ls Ss i = true → mustB (befs all []) k i = true → dm Ls Ss k = true
  lt : ∀ i, dm Ls Ss i = true → i < all.length
  sub : ∀ i, lst i = true → dm Ls Ss i = true
  hs : ∀ i, Ss.contains i = true → lst i = true
  cert : ∀ i, Ls.contains i = true → lst i = false → ∃ ids, (i, ids) ∈ rd ∧ ∀ o, all[i]? = some o → noCall o.op = true ∧ ∀ H', (∀ id ∈ ids, getO H' id = getO H id) → CertG P all (tvS all (fun k => mustB (befs all []) k i) f T0) H' o (f i)
def Plan.isLight : Plan → Bool
  | .light _ _ => true
  | _ => false
theorem range_all {n : Nat} {q : Nat → Bool} (h : (List.range n).all q = true) {i : Nat} (hi : i < n) : q i = true := List.all_eq_true.1 h i (List.mem_range.2 hi)
theorem seen_same {m : Nat} (hA : AnyOk N m all) {S : Nat → Bool} {f : Nat → HV} {i : Nat} {o : Oper} (ho : all[i]? = some o) (h1 : ∀ k, mustB (befs all []) k i = true → S k = true) (h2 : S i = false) (h3 : ∀ k, S k = true → mustB (befs all []) i k = true → S i = true) (hS : ∀ k, S k = true → k < all.length) :
    ∀ t ∈ seenT all o, tvS all (fun k => mustB (befs all []) k i) f T0 t = tvS all S f T0 t := by
  intro t ht
  have hil := (List.getElem?_eq_some_iff.1 ho).1
  refine tvS_at fun j oj hoj hd => ?_
  have hjl := (List.getElem?_eq_some_iff.1 hoj).1
  rcases Nat.lt_trichotomy j i with h | h | h
  · have hm := hA.ord j i oj o h hoj ho (.inr (by simp [confB, hd, ht]))
    rw [hm, h1 j hm]
  · subst h
    rw [h2]
    cases hx : mustB (befs all []) j j with
    | false => rfl
    | true => have := must_lt hA j j hil hx; omega
  · have e1 : mustB (befs all []) j i = false := by
      cases hx : mustB (befs all []) j i with
      | false => rfl
      | true => have := must_lt hA i j hil hx; omega
    have e2 : S j = false := by
      cases hx : S j with
      | false => rfl
      | true =>
        have := h3 j hx (hA.ord i j o oj h ho hoj (.inr (by unfold confB; rw [hd]; simp [ht])))
        rw [h2] at this; cases this
    rw [e1, e2]
theorem add_dst {m : Nat} (hA : AnyOk N m all) {S : Nat → Bool} {i : Nat} {o : Oper} (ho : all[i]? = some o) (h2 : S i = false) (h3 : ∀ k, S k = true → mustB (befs all []) i k = true → S i = true) :
    ∀ (k : Nat) ok, i < k → S k = true → all[k]? = some ok → ∀ t, o.dst = some t → ok.dst ≠ some t := by
  intro k ok hik hS hok t ht hd
  have := h3 k hS (hA.ord i k o ok hik ho hok (.inr (by unfold confB; rw [ht]; simp [hd])))
  rw [h2] at this; cases this
theorem settle {m : Nat} (hA : AnyOk N m all) {H : Heap} {lst : Nat → Bool} {Ss : List Nat} : ∀ (p : Plan) (Ls : List Nat) (rd : List (Nat × List Nat)) (f : Nat → HV) (T : Nat → HV), NodeI P N all K T0 p Ls Ss rd f T H lst →
    ∃ p' Ls' rd' f' T', NodeI P N all K T0 p' Ls' Ss rd' f' T' H lst ∧ p'.isLight = false ∧ ∀ k, dm Ls Ss k = true → f' k = f k
  | .leaf, Ls, rd, f, T, h => ⟨_, _, _, _, _, h, rfl, fun _ _ => rfl⟩
  | .stop, Ls, rd, f, T, h => ⟨_, _, _, _, _, h, rfl, fun _ _ => rfl⟩
  | .heavy .., Ls, rd, f, T, h => ⟨_, _, _, _, _, h, rfl, fun _ _ => rfl⟩
  | .light i p, Ls, rd, f, T, h => by
    have hc := h.chk
    simp only [Plan.chk, Bool.and_eq_true, decide_eq_true_eq, Bool.not_eq_true'] at hc
    obtain ⟨⟨⟨⟨⟨_, hil⟩, hnd⟩, hcf⟩, hpre⟩, hp⟩ := hc
    have ho : all[i]? = some all[i] := List.getElem?_eq_getElem hil
    generalize all[i] = o at ho
    have hno : noCall o.op = true := by unfold callFree at hcf; rw [ho] at hcf; exact hcf
    have hpre' : ∀ k, mustB (befs all []) k i = true → dm Ls Ss k = true := fun k hk => by
      have hkl := must_lt hA i k hil hk
      have := range_all hpre (i := k) (by omega)
      simpa [hk] using this
    have hr := h.run
    simp only [exT, nthO_eq, ho, atO, withI] at hr
    obtain ⟨x, hcert, hk⟩ := exGq_cert (k := fun _ T' _ => exT P all K p ((i, idsO T o.op) :: rd) T' H) hr
    have hcl : ∀ k, dm Ls Ss k = true → mustB (befs all []) i k = true → dm Ls Ss i = true := fun k h1 h2 => h.closed k i h1 h2
    let f1 : Nat → HV := fun k => if k = i then x else f k
    have f1i : f1 i = x := if_pos rfl
    have f1n : ∀ k, dm Ls Ss k = true → f k = f1 k := fun k hk => by
      have : k ≠ i := fun e => by rw [e, hnd] at hk; cases hk
      exact (if_neg this).symm
    have hT1 : T = tvS all (dm Ls Ss) f1 T0 := h.teq.trans (tvS_f fun j _ hj => f1n j hj)
    have hsee := seen_same (T0 := T0) (f := f1) hA ho hpre' hnd hcl h.lt
    have new : NodeI P N all K T0 p (i :: Ls) Ss ((i, idsO T o.op) :: rd) f1 (updO T o.dst x) H lst := by
      refine ⟨hp, hk, ?_, fun a k ha hm => ?_, fun a ha => ?_, fun a ha => ?_, h.hs, fun a ha hl => ?_⟩
      · rw [hT1, ← f1i]
        exact (tvS_add ho (by rw [dm_cons]; simp) hnd (fun k hk => by rw [dm_cons]; simp [hk]) (add_dst hA ho hnd hcl)).symm
      · rw [dm_cons] at ha ⊢
        simp only [Bool.or_eq_true, beq_iff_eq] at ha ⊢
        rcases ha with rfl | ha
        · exact .inr (hpre' k hm)
        · exact .inr (h.closed a k ha hm)
      · rw [dm_cons] at ha
        simp only [Bool.or_eq_true, beq_iff_eq] at ha
        rcases ha with rfl | ha
        · exact hil
        · exact h.lt a ha
      · rw [dm_cons, h.sub a ha]; simp
      · by_cases e : a = i
        · subst e
          refine ⟨_, List.mem_cons_self, fun o' ho' => ?_⟩
          rw [ho] at ho'; cases ho'
          refine ⟨hno, fun H' hH' => ?_⟩
          rw [f1i]
          refine CertG_ids (H := H) hno (fun id hid => hH' id ?_) ?_
          · rw [idsO_congr (T' := T) (seen_hev fun t ht => by rw [hT1]; exact hsee t ht)] at hid
            exact hid
          · refine CertG_congr (T := T) (fun t ht => ?_) hcert
            rw [hT1]; exact (hsee t ht).symm
        · have ha' : Ls.contains a = true := by
            simp only [List.contains_cons, Bool.or_eq_true, beq_iff_eq] at ha
            exact ha.resolve_left e
          obtain ⟨ids, h1, h2⟩ := h.cert a ha' hl
          refine ⟨ids, List.mem_cons_of_mem _ h1, fun o' ho' => ⟨(h2 o' ho').1, fun H' hH' => ?_⟩⟩
          have hda : dm Ls Ss a = true := by unfold dm; rw [ha']; rfl
          have := (h2 o' ho').2 H' hH'
          rw [f1n a hda] at this
          rw [tvS_f (f' := f1) fun j _ hj => f1n j (h.closed a j hda hj)] at this
          exact this
    obtain ⟨p', Ls', rd', f', T', h1, h2, h3⟩ := settle hA p (i :: Ls) _ f1 _ new
    exact ⟨p', Ls', rd', f', T', h1, h2, fun k hk => (h3 k (by rw [dm_cons, hk]; simp)).trans (f1n k hk).symm⟩
theorem alts_spec {H : Heap} {Ls Ss : List Nat} {rd : List (Nat × List Nat)} {T : Nat → HV} {j : Nat} (hj : j < all.length) (hd : dm Ls Ss j = false) (hpre : ∀ k, mustB (befs all []) k j = true → dm Ls Ss k = true) :
    ∀ (p : Plan) (alts : List Nat), p.chk all (befs all []) Ls Ss alts = true → (p.isLight = false ∨ alts ≠ []) → exT P all K p rd T H →
    alts.contains j = true ∨ ∃ keep p', p'.chk all (befs all []) Ls (j :: Ss) [] = true ∧ (Ls.all fun i => mustB (befs all []) i j || keep.contains i) = true ∧ ∃ o, all[j]? = some o ∧ exG (fun _ T' H' => agreeK keep H H' rd ∧ exT P all K p' rd T' H') P all o [] [] T H
  | .leaf, alts, hc, _, _ => by
    simp only [Plan.chk, Bool.and_eq_true] at hc
    have := range_all hc.2 hj
    rw [hd] at this; cases this
  | .stop, alts, hc, _, _ => by
    simp only [Plan.chk, Bool.and_eq_true] at hc
    have := range_all hc.2 hj
    rw [hd] at this
    simp only [Bool.false_or, Bool.or_eq_true] at this
    rcases this with h | h
    · exact .inl h
    · obtain ⟨k, _, hk⟩ := List.any_eq_true.1 h
      simp only [Bool.and_eq_true, Bool.not_eq_true'] at hk
      have := hpre k hk.2
      rw [hk.1] at this; cases this
  | .light i p, alts, hc, hl, _ => by
    simp only [Plan.chk, Bool.and_eq_true] at hc
    rcases hl with hl | hl
    · cases hl
    · have := hc.1.1.1.1.1
      exact absurd (List.isEmpty_iff.1 this) hl
  | .heavy i keep p q, alts, hc, _, hx => by
    simp only [Plan.chk, Bool.and_eq_true, decide_eq_true_eq] at hc
    obtain ⟨⟨⟨⟨⟨h1, h2⟩, h3⟩, h4⟩, h5⟩, h6⟩ := hc
    obtain ⟨hx1, hx2⟩ := hx
    by_cases e : i = j
    · subst e
      have ho : all[i]? = some all[i] := List.getElem?_eq_getElem h1
      rw [nthO_eq, ho] at hx1
      exact .inr ⟨keep, p, h5, h4, _, ho, hx1⟩
    · rcases alts_spec hj hd hpre q (i :: alts) h6 (.inr (by simp)) hx2 with h | h
      · simp only [List.contains_cons, Bool.or_eq_true, beq_iff_eq] at h
        rcases h with h | h
        · exact absurd h.symm e
        · exact .inl h
      · exact .inr h
theorem any_tree {m : Nat} {ro : Option Nat} {Φ : Exit → Act → World → Prop} (hA : AnyOk N m all) {Z0 : Nat → Prop} {G0 : List (Option OG)} {FP0 : Nat → List Nat} {ds : List Nat} {w0 : World}
    (hB : ∀ Z FP w, Evo Z0 FP0 w0 Z FP w → Bo ro B FP w)
    (hend : ∀ T H Z G FP a w, K T H → St N B Z G FP ds T H a w → GLt L G0 G → Evo Z0 FP0 w0 Z FP w → Φ .normal a w) :
    ∀ (fuel : Nat) (listed : Array Bool) (p : Plan) (Ls Ss : List Nat) (rd : List (Nat × List Nat)) (f : Nat → HV) (T : Nat → HV) (H : Heap) (Z : Nat → Prop) (G : List (Option OG)) (FP : Nat → List Nat) (a : Act) (w : World),
    listed.size = all.length → left listed ≤ fuel → Closed all listed → NodeI P N all K T0 p Ls Ss rd f T H (fun k => listed.getD k false) →
    St N B Z G FP ds (tvS all (fun k => listed.getD k false) f T0) H a w → GLt L G0 G → Evo Z0 FP0 w0 Z FP w → wpAnyIn (Wd ro) mm P .any all.toArray Φ fuel listed a w := by
  have hdall : all.all (dstOk N) = true := by
    rw [List.all_eq_true]
    intro o' ho'
    obtain ⟨j', hj'⟩ := List.mem_iff_getElem?.1 ho'
    have := (hA.ok j' o' hj').1
    simp only [operOk, Bool.and_eq_true] at this
    exact this.1
  have fin : ∀ (listed : Array Bool) (p : Plan) (Ls Ss : List Nat) (rd : List (Nat × List Nat)) (f : Nat → HV) (T : Nat → HV) (H : Heap) (Z : Nat → Prop) (G : List (Option OG)) (FP : Nat → List Nat) (a : Act) (w : World),
      (∀ k, k < all.length → listed.getD k false = true) → p.isLight = false → NodeI P N all K T0 p Ls Ss rd f T H (fun k => listed.getD k false) →
      St N B Z G FP ds (tvS all (fun k => listed.getD k false) f T0) H a w → GLt L G0 G → Evo Z0 FP0 w0 Z FP w → Φ .normal a w := by
    intro listed p Ls Ss rd f T H Z G FP a w hall hpl hN hs hG hE
    have hT : tvS all (fun k => listed.getD k false) f T0 = T := by
      rw [hN.teq]
      funext t
      refine tvS_at fun j o ho hd => ?_
      have h1 := hall j (List.getElem?_eq_some_iff.1 ho).1
      rw [h1, hN.sub j h1]
    rw [hT] at hs
    have hc := hN.chk
    have hr := hN.run
    cases p with
    | leaf => exact hend T H Z G FP a w hr hs hG hE
    | stop => simp [Plan.chk] at hc
    | light i p => cases hpl
    | heavy j keep p q =>
      simp only [Plan.chk, Bool.and_eq_true, decide_eq_true_eq, Bool.not_eq_true'] at hc
      have h1 := hc.1.1.1.1.1
      have h2 := hN.sub j (hall j h1)
      rw [hc.1.1.1.1.2] at h2; cases h2
  intro fuel
  induction fuel with
  | zero =>
    intro listed p Ls Ss rd f T H Z G FP a w hsz hf hc hN hs hG hE
    obtain ⟨p', Ls', rd', f', T', hN', hpl, hff⟩ := settle hA p Ls rd f T hN
    rw [tvS_f (f' := f') fun j _ hj => (hff j (hN.sub j hj)).symm] at hs
    have hall := left_zero (Nat.le_zero.1 hf)
    refine ⟨?_, fin listed p' Ls' Ss rd' f' T' H Z G FP a w (fun k hk => hall k (by omega)) hpl hN' hs hG hE⟩
    rw [List.eq_nil_iff_forall_not_mem]
    intro i hi
    obtain ⟨h1, o, ho, _⟩ := mem_ready.1 hi
    rw [List.getElem?_toArray] at ho
    have hi' := (List.getElem?_eq_some_iff.1 ho).1
    have h2 := hall i (by omega)
    rw [Array.getD_eq_getD_getElem?, not_listed h1] at h2
    simp at h2
  | succ fuel ih =>
    intro listed p Ls Ss rd f T H Z G FP a w hsz hf hc hN hs hG hE
    obtain ⟨p', Ls', rd', f', T', hN', hpl, hff⟩ := settle hA p Ls rd f T hN
    rw [tvS_f (f' := f') fun j _ hj => (hff j (hN.sub j hj)).symm] at hs
    clear hN
    refine ⟨fun h0 => ?_, fun i hi => ?_⟩
    · refine fin listed p' Ls' Ss rd' f' T' H Z G FP a w (fun k hk => ?_) hpl hN' hs hG hE
      cases hx : listed.getD k false with
      | true => rfl
      | false =>
        obtain ⟨k', ⟨h1, h2⟩, h3⟩ := exists_least (p := fun k => k < all.length ∧ listed.getD k false = false) ⟨k, hk, hx⟩
        have := ready_least hA hsz h1 h2 (fun j hj => by
          cases hx : listed.getD j false with
          | true => rfl
          | false => have := h3 j ⟨by omega, hx⟩; omega)
        rw [h0] at this; simp at this
    obtain ⟨h1, o, ho, ha⟩ := mem_ready.1 hi
    rw [List.getElem?_toArray] at ho
    have hil := (List.getElem?_eq_some_iff.1 ho).1
    have hnl := not_listed h1
    have hnf : listed.getD i false = false := by rw [Array.getD_eq_getD_getElem?, hnl]; rfl
    obtain ⟨hok, hnd⟩ := hA.ok i o ho
    have hadd := left_add hnl
    have hcl2 := closed_add hc (fun o' ho' e he hb => by rw [ho] at ho'; cases ho'; exact ha e (by simpa using he) hb)
    have hmust : ∀ k, mustB (befs all []) k i = true → listed.getD k false = true := fun k hk => ready_must hA hc hi hk
    have hlt : ∀ k, listed.getD k false = true → k < all.length := fun k hk => hN'.lt k (hN'.sub k hk)
    have hclm : ∀ k, listed.getD k false = true → mustB (befs all []) i k = true → listed.getD i false = true := fun k hk hm => by
      have hkl := hlt k hk
      exact closed_must hA hc k i _ (List.getElem?_eq_getElem hkl) (hc k _ (List.getElem?_eq_getElem hkl) hk) hm
    have hset : ∀ k, (listed.setIfInBounds i true).getD k false = (k == i || listed.getD k false) := fun k => by
      by_cases e : k = i
      · subst e; rw [getD_set_self (by omega)]; simp
      · simp only [Array.getD_eq_getD_getElem?, Array.getElem?_setIfInBounds_ne (Ne.symm e)]
        simp [e]
    have hTadd : ∀ g : Nat → HV, tvS all (fun k => (listed.setIfInBounds i true).getD k false) g T0 = updO (tvS all (fun k => listed.getD k false) g T0) o.dst (g i) := fun g =>
      tvS_add ho (by rw [hset]; simp) hnf (fun k hk => by rw [hset]; simp [hk]) (add_dst hA ho hnf hclm)
    by_cases hdi : dm Ls' Ss i = true
    ·
      have hiL : Ls'.contains i = true := by
        unfold dm at hdi
        rcases Bool.or_eq_true_iff.1 hdi with h | h
        · exact h
        · have : listed.getD i false = true := hN'.hs i h
          rw [hnf] at this; cases this
      obtain ⟨ids, _, h2⟩ := hN'.cert i hiL hnf
      obtain ⟨_, h3⟩ := h2 o ho
      have hcert := h3 H (fun _ _ => rfl)
      have hsee := seen_same (T0 := T0) (f := f') hA ho hmust hnf hclm hlt
      refine certG_run hdall ho hok hnd (CertG_congr hsee hcert) hs fun Z' G' FP' a' w' hs2 hG' hE' => ?_
      refine ih (listed.setIfInBounds i true) p' Ls' Ss rd' f' T' H Z' G' FP' a' w' (by simpa using hsz) (by omega) hcl2 ?_ (by rw [hTadd]; exact hs2) (hG.trans (GLt.of hG.len hG')) (hE.trans hE')
      refine ⟨hN'.chk, hN'.run, hN'.teq, hN'.closed, hN'.lt, fun k hk => ?_, fun k hk => ?_, fun k hk hl => ?_⟩
      · rw [hset] at hk
        simp only [Bool.or_eq_true, beq_iff_eq] at hk
        rcases hk with rfl | hk
        · exact hdi
        · exact hN'.sub k hk
      · rw [hset, hN'.hs k hk]; simp
      · rw [hset] at hl
        exact hN'.cert k hk (Bool.or_eq_false_iff.1 hl).2
    ·
      have hdi : dm Ls' Ss i = false := by simpa using hdi
      have hpre : ∀ k, mustB (befs all []) k i = true → dm Ls' Ss k = true := fun k hk => hN'.sub k (hmust k hk)
      rcases alts_spec hil hdi hpre p' [] hN'.chk (.inl hpl) hN'.run with h | ⟨keep, p2, hc2, hk2, o', ho', hx⟩
      · simp at h
      rw [ho] at ho'; cases ho'
      have hcl : ∀ k, dm Ls' Ss k = true → mustB (befs all []) i k = true → dm Ls' Ss i = true := fun k h1 h2 => hN'.closed k i h1 h2
      have hsee : ∀ t ∈ seenT all o, T' t = tvS all (fun k => listed.getD k false) f' T0 t := fun t ht => by
        rw [hN'.teq, ← seen_same (T0 := T0) (f := f') hA ho hpre hdi hcl hN'.lt t ht]
        exact seen_same (T0 := T0) (f := f') hA ho hmust hnf hclm hlt t ht
      refine exG_run (L := L) hdall ho hok hnd (exG_shift hsee hx) hs (hB Z FP w hE) hG.len fun T2 H2 Z' G' FP' a' w' hkk hs2 hG' hE' => ?_
      obtain ⟨x, rfl, hag, hrun⟩ := hkk
      let f1 : Nat → HV := fun k => if k = i then x else f' k
      have f1i : f1 i = x := if_pos rfl
      have f1n : ∀ k, dm Ls' Ss k = true → f' k = f1 k := fun k hk => by
        have : k ≠ i := fun e => by rw [e, hdi] at hk; cases hk
        exact (if_neg this).symm
      refine ih (listed.setIfInBounds i true) p2 Ls' (i :: Ss) rd' f1 (updO T' o.dst x) H2 Z' G' FP' a' w' (by simpa using hsz) (by omega) hcl2 ?_ ?_ (hG.trans hG') (hE.trans hE')
      · refine ⟨hc2, hrun, ?_, fun a k ha hm => ?_, fun a ha => ?_, fun a ha => ?_, fun a ha => ?_, fun a ha hl => ?_⟩
        · rw [hN'.teq, tvS_f (f' := f1) fun j _ hj => f1n j hj, ← f1i]
          exact (tvS_add ho (by rw [dm_cons']; simp) hdi (fun k hk => by rw [dm_cons']; simp [hk]) (add_dst hA ho hdi hcl)).symm
        · rw [dm_cons'] at ha ⊢
          simp only [Bool.or_eq_true, beq_iff_eq] at ha ⊢
          rcases ha with rfl | ha
          · exact .inr (hpre k hm)
          · exact .inr (hN'.closed a k ha hm)
        · rw [dm_cons'] at ha
          simp only [Bool.or_eq_true, beq_iff_eq] at ha
          rcases ha with rfl | ha
          · exact hil
          · exact hN'.lt a ha
        · rw [hset] at ha
          rw [dm_cons']
          simp only [Bool.or_eq_true, beq_iff_eq] at ha ⊢
          exact ha.imp id fun ha => hN'.sub a ha
        · rw [hset]
          simp only [List.contains_cons, Bool.or_eq_true, beq_iff_eq] at ha ⊢
          exact ha.imp id fun ha => hN'.hs a ha
        · rw [hset] at hl
          obtain ⟨e, hl⟩ := Bool.or_eq_false_iff.1 hl
          have hda : dm Ls' Ss a = true := by unfold dm; rw [ha]; rfl
          obtain ⟨ids, h1, h2⟩ := hN'.cert a ha hl
          refine ⟨ids, h1, fun o' ho' => ⟨(h2 o' ho').1, fun H' hH' => ?_⟩⟩
          have hka : keep.contains a = true := by
            have := List.all_eq_true.1 hk2 a (by simpa using ha)
            rcases Bool.or_eq_true_iff.1 this with hm | hk
            · have := hmust a hm
              rw [hl] at this; cases this
            · exact hk
          have := (h2 o' ho').2 H' (fun id hid => (hH' id hid).trans (agreeK_spec hag _ h1 hka id hid))
          rw [f1n a hda] at this
          rw [tvS_f (f' := f1) fun j _ hj => f1n j (hN'.closed a j hda hj)] at this
          exact this
      · rw [hTadd, f1i, ← tvS_f (f := f') fun j _ hj => f1n j (hN'.sub j hj)]
        exact hs2
theorem HW.tree {id : Nat} {Q : Exit → KS} {T : Nat → HV} {H : Heap} (n : Nat) (p : Plan) (hm : P.follows .mixedOrders = true) (hB : anyB N all.length all = true) (hp : p.chk all (befs all []) [] [] [] = true)
    (h : exT P all (ex P N L Q n []) p [] T H) : HW P N L (.region id all.toArray true) Q T H := by
  intro ro mm B Z G FP ds a w hB' hL hst
  have hA := anyB_spec hB
  have hEv : Evo Z FP w Z FP { w with drawn := w.drawn + 1 } := ⟨rfl, rfl, rfl, Nat.le_refl _, fun _ _ _ => rfl, fun _ h => h, fun _ h => .inl h, fun id b hb => .inr ⟨id, hb⟩⟩
  have hi : HInv Z G FP H { w with drawn := w.drawn + 1 } := hst.inv.keep (Nat.le_refl _) (fun _ _ => rfl)
  have hs' := hst.evo hi (GLe.refl _) hEv
  have hrep : ∀ k, (Array.replicate all.toArray.size false).getD k false = false := fun k => by
    simp only [Array.getD_eq_getD_getElem?]
    by_cases hlt : k < all.toArray.size
    · rw [Array.getElem?_eq_getElem (by simpa using hlt)]
      simp
    · rw [Array.getElem?_eq_none (by simpa using hlt)]; rfl
  have e : ∀ g, tvS all (fun k => (Array.replicate all.toArray.size false).getD k false) g T = T := fun g => by
    funext t
    unfold tvS
    rw [runM_no]
    intro j _
    exact hrep _
  have e2 : ∀ g, tvS all (dm [] []) g T = T := fun g => by
    funext t
    unfold tvS
    rw [runM_no]
    intro j _
    rfl
  refine wpIn_region_any hm ?_
  refine any_tree (K := ex P N L Q n []) (T0 := T) (B := B) (L := L) (Z0 := Z) (G0 := G) (FP0 := FP) (ds := ds) (w0 := w) hA (fun Z' FP' w' hE => hB'.evo hE) ?_ _ _ p [] [] [] (fun _ => .any) T H Z G FP _ _ (by simp) ?_ ?_ ?_ ?_ (GLt.refl hL) hEv
  · intro T1 H1 Z1 G1 FP1 a1 w1 hK hs1 hG1 hE1
    exact ex_run n [] T1 H1 hK (by simp) ro mm B Z G FP w Z1 G1 FP1 ds a1 w1 (hB'.evo hE1) hs1 hG1 hE1
  · have : ∀ k : Nat, left (Array.replicate k false) = k := by intro k; simp [left]
    rw [this]; simp
  · intro j o hj hl
    rw [hrep] at hl; cases hl
  · exact ⟨hp, h, (e2 _).symm, fun i k hi => (by simp [dm] at hi), fun i hi => (by simp [dm] at hi), fun i hi => (by rw [hrep] at hi; cases hi), fun i hi => (by simp at hi), fun i hi => (by simp at hi)⟩
  · rw [e]; exact hs'
def onlyN (R : KS) : Exit → KS
  | .normal => R
  | _ => fun _ _ => False
theorem HW.treeI {id : Nat} {Q : Exit → KS} {T : Nat → HV} {H : Heap} (I : KS) (p : Plan) (hm : P.follows .mixedOrders = true) (hB : anyB N all.length all = true) (hp : p.chk all (befs all []) [] [] [] = true)
    (h : exT P all (GQ N L I) p [] T H) (k : ∀ T H, I T H → Q .normal T H) : HW P N L (.region id all.toArray true) Q T H := by
  refine HW.weaken (Q' := onlyN (GQ N L I)) (HW.tree 1 p hm hB hp h) fun e T' H' hq => ?_
  cases e with
  | normal =>
    obtain ⟨T2, H2, g, hi⟩ := hq
    exact ⟨T2, H2, g, k _ _ hi⟩
  | _ => exact hq.elim
end
section
variable {P : Program} {all l : List Oper} {K : KS} {k : List Item → KS} {p q : Plan} {rd : List (Nat × List Nat)} {T : Nat → HV} {H H' : Heap} {i j : Nat} {keep : List Nat} {d : Option Nat} {r : List Item}
def contQ (P : Program) (all : List Oper) (K : KS) (p : Plan) (rd : List (Nat × List Nat)) (i : Nat) (ids : List Nat) (H : Heap) : List Item → KS := fun _ T' _ => exT P all K p ((i, ids) :: rd) T' H
def contT (P : Program) (all : List Oper) (K : KS) (p : Plan) (rd : List (Nat × List Nat)) (keep : List Nat) (H : Heap) : List Item → KS := fun _ T' H' => withH H' fun H' => agreeK keep H H' rd ∧ exT P all K p rd T' H'
theorem contQ_at {ids : List Nat} : contQ P all K p rd i ids H r T H' = exT P all K p ((i, ids) :: rd) T H := rfl
theorem contT_at : contT P all K p rd keep H r T H' = withH H' fun H' => agreeK keep H H' rd ∧ exT P all K p rd T H' := rfl
theorem exT_leaf : exT P all K .leaf rd T H = K T H := rfl
theorem exT_stop : exT P all K .stop rd T H = True := rfl
theorem exT_light : exT P all K (.light i p) rd T H = atO (nthO all i) fun o => withI (idsO T o.op) fun ids => exGq (contQ P all K p rd i ids H) P all o [] [] T H := rfl
theorem exT_heavy1 : exT P all K (.heavy j keep p .stop) rd T H = atO (nthO all j) fun o => exG (contT P all K p rd keep H) P all o [] [] T H := and_true _
theorem exT_heavy {j' : Nat} {keep' : List Nat} {p' q' : Plan} : exT P all K (.heavy j keep p (.heavy j' keep' p' q')) rd T H = ((atO (nthO all j) fun o => exG (contT P all K p rd keep H) P all o [] [] T H) ∧ exT P all K (.heavy j' keep' p' q') rd T H) := rfl
theorem nthO_zero {o : Oper} : nthO (o :: l) 0 = some o := rfl
theorem nthO_succ {o : Oper} {i : Nat} : nthO (o :: l) (i + 1) = nthO l i := rfl
theorem atO_some {o : Oper} {f : Oper → Prop} : atO (some o) f = f o := rfl
theorem atO_congr {r r' : Option Oper} {f : Oper → Prop} (h : r = r') : atO r f = atO r' f := by rw [h]
theorem withI_congr {a b : List Nat} {f : List Nat → Prop} (h : a = b) : withI a f = withI b f := by rw [h]
theorem withH_congr {f : Heap → Prop} (h : H = H') : withH H f = withH H' f := by rw [h]
theorem withI_eq {a : List Nat} {f : List Nat → Prop} : withI a f = f a := rfl
theorem withH_eq {f : Heap → Prop} : withH H f = f H := rfl
theorem callX_congr2 {fid : Nat} {args args' : List HV} (hH : H = H') (ha : args = args') : callX k P fid H args all d l r T = callX k P fid H' args' all d l r T := by rw [hH, ha]
theorem yieldX_congr2 {id : Nat} {args args' : List HV} (hH : H = H') (ha : args = args') : yieldX k P id H args all d l r T = yieldX k P id H' args' all d l r T := by rw [hH, ha]
theorem exGq_none {op : Op} {ty : TypeId} {pos : String} {af : Array Edge} : exGq k P all ⟨d, op, ty, pos, af, none⟩ l r T H = exOq k P all d op l r T H := rfl
theorem exGq_some {op : Op} {ty : TypeId} {pos : String} {af : Array Edge} {b : Bool} : exGq k P all ⟨d, op, ty, pos, af, some (i, b)⟩ l r T H = exBq k P (dstAt all i) b all d op l r T H := rfl
theorem exG_none {op : Op} {ty : TypeId} {pos : String} {af : Array Edge} : exG k P all ⟨d, op, ty, pos, af, none⟩ l r T H = exO k P all d op l r T H := rfl
theorem exG_some {op : Op} {ty : TypeId} {pos : String} {af : Array Edge} {b : Bool} : exG k P all ⟨d, op, ty, pos, af, some (i, b)⟩ l r T H = exB k P (dstAt all i) b all d op l r T H := rfl
theorem sameAt_nil : sameAt H H' [] = True := rfl
theorem sameAt_cons {l : List Nat} : sameAt H H' (i :: l) = (getO H' i = getO H i ∧ sameAt H H' l) := rfl
theorem agree1_true {ids : List Nat} : agree1 H H' ids true = sameAt H H' ids := rfl
theorem agree1_false {ids : List Nat} : agree1 H H' ids false = True := rfl
theorem agree1_congr {ids : List Nat} {b c : Bool} (h : b = c) : agree1 H H' ids b = agree1 H H' ids c := by rw [h]
theorem agreeK_nil : agreeK keep H H' [] = True := rfl
theorem agreeK_cons {e : Nat × List Nat} : agreeK keep H H' (e :: rd) = (agree1 H H' e.2 (keep.contains e.1) ∧ agreeK keep H H' rd) := rfl
theorem agreeK_keep : agreeK [] H H' rd = True := by
  induction rd with
  | nil => rfl
  | cons e rd ih => rw [agreeK_cons, ih]; simp [agree1]
theorem idsO_buildSlice {t : TypeId} {len : Nat} {ps : Array (Nat × Operand)} : idsO T (.buildSlice t len ps) = [] := rfl
theorem idsO_load {t : TypeId} {x : Operand} : idsO T (.load t x) = idsV (hev T x) := by simp [idsO, indep, Op.operands]
theorem idsO_nilCheck {x : Operand} : idsO T (.nilCheck x) = idsV (hev T x) := by simp [idsO, indep, Op.operands]
theorem idsO_convert {s t : TypeId} {x : Operand} : idsO T (.convert s t x) = idsV (hev T x) := by simp [idsO, indep, Op.operands]
theorem idsO_fieldAddr {t : TypeId} {x : Operand} {i : Nat} : idsO T (.fieldAddr t x i) = idsV (hev T x) := by simp [idsO, indep, Op.operands]
theorem idsO_indexAddr {t : TypeId} {x y : Operand} : idsO T (.indexAddr t x y) = idsV (hev T x) ++ idsV (hev T y) := by simp [idsO, indep, Op.operands]
theorem idsO_len {x : Operand} {t : TypeId} : idsO T (.call { callee := .builtin .len, args := #[x], argTypes := #[t] }) = idsV (hev T x) := by simp [idsO, indep, Op.operands, Call.operands]
theorem idsO_max {x y : Operand} {t u : TypeId} : idsO T (.call { callee := .builtin .max, args := #[x, y], argTypes := #[t, u] }) = idsV (hev T x) ++ idsV (hev T y) := by simp [idsO, indep, Op.operands, Call.operands]
theorem idsO_min {x y : Operand} {t u : TypeId} : idsO T (.call { callee := .builtin .min, args := #[x, y], argTypes := #[t, u] }) = idsV (hev T x) ++ idsV (hev T y) := by simp [idsO, indep, Op.operands, Call.operands]
theorem idsO_slice2 {x : Operand} {t : TypeId} : idsO T (.slice t x none none none) = idsV (hev T x) := by simp [idsO, indep, Op.operands]
theorem idsO_slice4 {x y : Operand} {t : TypeId} : idsO T (.slice t x (some y) none none) = idsV (hev T x) ++ idsV (hev T y) := by simp [idsO, indep, Op.operands]
theorem idsO_slice1 {x y z : Operand} {t : TypeId} : idsO T (.slice t x (some y) (some z) none) = idsV (hev T x) ++ (idsV (hev T y) ++ idsV (hev T z)) := by simp [idsO, indep, Op.operands]
theorem idsO_slice3 {x y : Operand} {t : TypeId} : idsO T (.slice t x none (some y) none) = idsV (hev T x) ++ idsV (hev T y) := by simp [idsO, indep, Op.operands]
theorem idsO_move {x : Operand} : idsO T (.move x) = [] := rfl
theorem idsO_assign {x : Operand} : idsO T (.assign x) = [] := rfl
theorem idsO_pick {x y z : Operand} : idsO T (.pick x y z) = [] := rfl
theorem idsO_build {t : TypeId} {ps : Array (Nat × Operand)} : idsO T (.build t ps) = [] := rfl
theorem idsO_bin {op : BinOp} {t t' : TypeId} {x y : Operand} : idsO T (.binOp op t x y t') = [] := rfl
theorem idsO_un {op : UnOp} {t : TypeId} {x : Operand} : idsO T (.unOp op t x) = [] := rfl
theorem idsO_iface {t : TypeId} {x : Operand} : idsO T (.makeInterface t x) = [] := rfl
theorem idsO_func {f : Fn} {xs ys : Array Operand} : idsO T (.makeFunc f xs ys) = [] := rfl
theorem idsO_field {t : TypeId} {x : Operand} {i : Nat} : idsO T (.field t x i) = [] := rfl
theorem idsO_index {t : TypeId} {x i : Operand} : idsO T (.index t x i) = [] := rfl
theorem idsO_extract {x : Operand} {i : Nat} : idsO T (.extract x i) = [] := rfl
theorem idsV_hd {a b c : Nat} : idsV (.hd a b c) = [a] := rfl
theorem idsV_pt {a b c e : Nat} : idsV (.pt a b c e) = [a] := rfl
theorem idsV_v {x : Value} : idsV (.v x) = [] := rfl
theorem idsV_sl {x : List (List HV)} : idsV (.sl x) = [] := rfl
theorem idsV_fp {x : List (List HV)} {a b : Nat} : idsV (.fp x a b) = [] := rfl
theorem idsV_fn {x : List HV} {a : Nat} : idsV (.fn a x) = [] := rfl
theorem idsV_ic {x : HV} {a : Nat} : idsV (.ic a x) = [] := rfl
theorem idsV_ag {x : List HV} : idsV (.ag x) = [] := rfl
end
attribute [congr] atO_congr withI_congr withH_congr agree1_congr callX_congr2 yieldX_congr2
attribute [go_sem] withI_eq withH_eq sameAt_nil sameAt_cons agree1_true agree1_false idsV_hd idsV_pt idsV_v idsV_sl idsV_fp idsV_fn idsV_ic idsV_ag List.append_nil List.isEmpty_nil
attribute [go_sem ↓] contQ_at contT_at exT_leaf exT_stop exT_light exT_heavy1 exT_heavy nthO_zero nthO_succ atO_some exGq_none exGq_some exG_none exG_some agreeK_keep agreeK_nil agreeK_cons idsO_buildSlice idsO_load idsO_nilCheck idsO_convert idsO_fieldAddr idsO_indexAddr idsO_len idsO_max idsO_min idsO_slice1 idsO_slice2 idsO_slice3 idsO_slice4 idsO_move idsO_assign idsO_pick idsO_build idsO_bin idsO_un idsO_iface idsO_func idsO_field idsO_index idsO_extract
end Go.Proofs.Yteieinhgdjjdoaa
namespace Go.Proofs.Yteieinhgdjjdoaa
open Go.RowKit
def sw (i j k : Nat) : Nat := if k = i then j else if k = j then i else k
theorem sw_sw (i j k : Nat) : sw i j (sw i j k) = k := by
  unfold sw
  by_cases h1 : k = i
  · subst h1
    rw [if_pos rfl]
    by_cases h2 : j = k
    · rw [if_pos h2]; exact h2
    · rw [if_neg h2, if_pos rfl]
  · rw [if_neg h1]
    by_cases h2 : k = j
    · rw [if_pos h2, if_pos rfl]; exact h2.symm
    · rw [if_neg h2, if_neg h1, if_neg h2]
theorem sw_lt {i j k n : Nat} (hi : i < n) (hj : j < n) (hk : k < n) : sw i j k < n := by
  unfold sw
  split
  · exact hj
  · split
    · exact hi
    · exact hk
def swL {α : Type} (l : List α) (i j : Nat) : List α :=
  match l[i]?, l[j]? with
  | some a, some b => (l.set i b).set j a
  | _, _ => l
theorem swL_get {α : Type} {l : List α} {i j : Nat} (hi : i < l.length) (hj : j < l.length) (k : Nat) : (swL l i j)[k]? = l[sw i j k]? := by
  unfold swL
  rw [List.getElem?_eq_getElem hi, List.getElem?_eq_getElem hj]
  simp only
  unfold sw
  by_cases h1 : k = i
  · subst h1
    rw [if_pos rfl]
    by_cases h2 : j = k
    · subst h2; simp [hj]
    · rw [List.getElem?_set_ne h2, List.getElem?_set_self hi, List.getElem?_eq_getElem hj]
  · rw [if_neg h1]
    by_cases h2 : k = j
    · subst h2
      rw [if_pos rfl, List.getElem?_set_self (by simpa using hj), List.getElem?_eq_getElem hi]
    · rw [if_neg h2, List.getElem?_set_ne (fun e => h2 e.symm), List.getElem?_set_ne (fun e => h1 e.symm)]
theorem swL_len {α : Type} {l : List α} {i j : Nat} : (swL l i j).length = l.length := by
  unfold swL
  split <;> simp
mutual
def rn (p : Nat → Nat) : HV → HV
  | .hd id a b => .hd (p id) a b
  | .pt id a b c => .pt (p id) a b c
  | .mp id => .mp (p id)
  | .yl id => .yl (p id)
  | .ag cs => .ag (rnL p cs)
  | .tu cs => .tu (rnL p cs)
  | .fn f cs => .fn f (rnL p cs)
  | .ic t x => .ic t (rn p x)
  | .any => .any
  | .v x => .v x
  | .sl r => .sl r
  | .ow e s r => .ow e s r
  | .fp r i o => .fp r i o
  | .bx e s r => .bx e s r
  | .ob x => .ob x
  | .om x h => .om x h
def rnL (p : Nat → Nat) : List HV → List HV
  | [] => []
  | h :: t => rn p h :: rnL p t
end
def rnR (p : Nat → Nat) (rows : List (List HV)) : List (List HV) := rows.map (rnL p)
theorem rnL_len {p : Nat → Nat} : ∀ l : List HV, (rnL p l).length = l.length
  | [] => rfl
  | h :: t => by simp [rnL, rnL_len t]
section
variable {Z : Nat → Prop} {w : World} {p : Nat → Nat} {G G' : List (Option OG)} (hp : ∀ id, id < G.length → p id < G'.length ∧ G'[p id]? = G[id]?)
include hp
mutual
theorem RV_rn : ∀ (h : HV) (y : Value) (fp : List Nat), RV Z G w h y fp → RV Z G' w (rn p h) y fp
  | .any, y, fp, hr => by simpa only [RV, rn] using hr
  | .v x, y, fp, hr => by simpa only [RV, rn] using hr
  | .sl rows, y, fp, hr => by simpa only [RV, rn] using hr
  | .ow e sz rows, y, fp, hr => by simpa only [RV, rn] using hr
  | .fp rows i o, y, fp, hr => by simpa only [RV, rn] using hr
  | .bx e sz row, y, fp, hr => by simpa only [RV, rn] using hr
  | .ob x, y, fp, hr => by simp only [RV] at hr
  | .om x hs, y, fp, hr => by simpa only [RV, rn] using hr
  | .hd id a b, y, fp, hr => by
    simp only [RV, rn] at hr ⊢
    obtain ⟨h1, h2, h3, h4⟩ := hr
    obtain ⟨e1, e2⟩ := hp id h3
    exact ⟨h1, h2, e1, fun g hg => h4 g (e2 ▸ hg)⟩
  | .pt id a b c, y, fp, hr => by
    simp only [RV, rn] at hr ⊢
    obtain ⟨h1, h2, h3, h4⟩ := hr
    obtain ⟨e1, e2⟩ := hp id h3
    exact ⟨h1, h2, e1, fun g hg => h4 g (e2 ▸ hg)⟩
  | .mp id, y, fp, hr => by
    simp only [RV, rn] at hr ⊢
    obtain ⟨h1, h2, h3, h4⟩ := hr
    obtain ⟨e1, e2⟩ := hp id h3
    exact ⟨h1, h2, e1, fun g hg => h4 g (e2 ▸ hg)⟩
  | .yl id, y, fp, hr => by
    simp only [RV, rn] at hr ⊢
    obtain ⟨h1, h3, l, h2, h4⟩ := hr
    obtain ⟨e1, e2⟩ := hp id h3
    exact ⟨h1, e1, l, h2, fun g hg => h4 g (e2 ▸ hg)⟩
  | .ag cs, y, fp, hr => by
    simp only [RV, rn] at hr ⊢
    obtain ⟨ys, h1, h2⟩ := hr
    exact ⟨ys, h1, RL_rn cs _ fp h2⟩
  | .tu cs, y, fp, hr => by
    simp only [RV, rn] at hr ⊢
    obtain ⟨ys, h1, h2⟩ := hr
    exact ⟨ys, h1, RL_rn cs _ fp h2⟩
  | .fn f cs, y, fp, hr => by
    simp only [RV, rn] at hr ⊢
    obtain ⟨ys, h1, h2⟩ := hr
    exact ⟨ys, h1, RL_rn cs _ fp h2⟩
  | .ic t x, y, fp, hr => by
    simp only [RV, rn] at hr ⊢
    obtain ⟨h0, z, h1, h2⟩ := hr
    exact ⟨h0, z, h1, RV_rn x z [] h2⟩
theorem RL_rn : ∀ (l : List HV) (ys : List Value) (fp : List Nat), RL Z G w l ys fp → RL Z G' w (rnL p l) ys fp
  | [], ys, fp, hr => by simpa only [RL, rnL] using hr
  | h :: t, ys, fp, hr => by
    simp only [RL, rnL] at hr ⊢
    obtain ⟨y, ys', f1, f2, h1, h2, h3, h4⟩ := hr
    exact ⟨y, ys', f1, f2, h1, h2, RV_rn h y f1 h3, RL_rn t ys' f2 h4⟩
end
theorem RC_rn : ∀ (l : List HV) (b k : Nat) (fp : List Nat), RC Z G w l b k fp → RC Z G' w (rnL p l) b k fp
  | [], b, k, fp, hr => by simpa only [RC, rnL] using hr
  | h :: t, b, k, fp, hr => by
    simp only [RC, rnL] at hr ⊢
    obtain ⟨y, f1, f2, h1, h2, h3, h4, h5⟩ := hr
    exact ⟨y, f1, f2, h1, h2, h3, RV_rn hp h y f1 h4, RC_rn t b (k + 1) f2 h5⟩
theorem RR_rn : ∀ (l : List (List HV)) (b k : Nat) (fp : List Nat), RR Z G w l b k fp → RR Z G' w (rnR p l) b k fp
  | [], b, k, fp, hr => by simpa only [RR, rnR, List.map_nil] using hr
  | r :: t, b, k, fp, hr => by
    simp only [RR, rnR, List.map_cons] at hr ⊢
    obtain ⟨f1, f2, h1, h2, h3⟩ := hr
    refine ⟨f1, f2, h1, RC_rn hp r b k f1 h2, ?_⟩
    rw [rnL_len]
    exact RR_rn t b (k + r.length) f2 h3
end
mutual
theorem rn_nm {p : Nat → Nat} : ∀ h : HV, nm 0 h = true → rn p h = h
  | .any, _ => rfl
  | .v _, _ => rfl
  | .sl _, _ => rfl
  | .ow .., _ => rfl
  | .fp .., _ => rfl
  | .bx .., _ => rfl
  | .ob _, _ => rfl
  | .om .., _ => rfl
  | .hd id a b, h => by simp [nm] at h
  | .pt id a b c, h => by simp [nm] at h
  | .mp id, h => by simp [nm] at h
  | .yl id, h => by simp [nm] at h
  | .ag cs, h => by simp only [nm] at h; simp only [rn]; rw [rnL_nm cs h]
  | .tu cs, h => by simp only [nm] at h; simp only [rn]; rw [rnL_nm cs h]
  | .fn f cs, h => by simp only [nm] at h; simp only [rn]; rw [rnL_nm cs h]
  | .ic t x, h => by simp only [nm] at h; simp only [rn]; rw [rn_nm x h]
theorem rnL_nm {p : Nat → Nat} : ∀ l : List HV, nmL 0 l = true → rnL p l = l
  | [], _ => rfl
  | h :: t, hn => by
    simp only [nmL, Bool.and_eq_true] at hn
    simp only [rnL]
    rw [rn_nm h hn.1, rnL_nm t hn.2]
end
theorem rnR_nm {p : Nat → Nat} : ∀ l : List (List HV), nmR 0 l = true → rnR p l = l
  | [], _ => rfl
  | r :: t, hn => by
    simp only [nmR, Bool.and_eq_true] at hn
    simp only [rnR, List.map_cons]
    rw [rnL_nm r hn.1]
    have := rnR_nm (p := p) t hn.2
    unfold rnR at this
    rw [this]
def rnO (p : Nat → Nat) (ob : HObj) : HObj := match nmR 0 ob.rows with
  | true => ob
  | false => { ob with rows := rnR p ob.rows }
theorem rnO_eq {p : Nat → Nat} {ob : HObj} : rnO p ob = { ob with rows := rnR p ob.rows } := by
  unfold rnO
  split
  · rename_i h; rw [rnR_nm _ h]
  · rfl
def swH (H : Heap) (i j : Nat) : Heap := swL (H.map (Option.map (rnO (sw i j)))) i j
theorem OB_rn {Z : Nat → Prop} {w : World} {p : Nat → Nat} {G G' : List (Option OG)} (hp : ∀ id, id < G.length → p id < G'.length ∧ G'[p id]? = G[id]?) {o : HObj} {g : OG} {fp : List Nat} (h : OB Z G w o g fp) : OB Z G' w { o with rows := rnR p o.rows } g fp := by
  refine ⟨h.e, h.sz, by simp [rnR, h.n], fun r hr => ?_, ?_⟩
  · obtain ⟨r', hr', rfl⟩ := List.mem_map.1 hr
    rw [rnL_len]; exact h.len r' hr'
  · rcases h.at_ with ⟨h1, h2, h3⟩ | ⟨b, cells, f, h1, h2, h3, h4, h5, h6, h7⟩ | ⟨x, hs, obj, f, h1, h2, h3, h4, h5, h6⟩
    · exact .inl ⟨h1, by simp [h2, rnR], h3⟩
    · exact .inr (.inl ⟨b, cells, f, h1, h2, h3, h4, by simpa [rnR] using h5, h6, RR_rn hp _ _ _ _ h7⟩)
    · exact .inr (.inr ⟨x, rnL p hs, obj, f, h1, by simp [h2, rnR, rnL, rn], h3, h4, h5, RL_rn hp _ _ _ h6⟩)
theorem HInv.swap {Z : Nat → Prop} {G : List (Option OG)} {FP : Nat → List Nat} {H : Heap} {w : World} {i j : Nat} (hi : i < H.length) (hj : j < H.length) (h : HInv Z G FP H w) : HInv Z (swL G i j) (fun k => FP (sw i j k)) (swH H i j) w := by
  have hg : ∀ k, (swH H i j)[k]? = (H[sw i j k]?).map (Option.map (rnO (sw i j))) := fun k => by
    unfold swH
    rw [swL_get (by simpa using hi) (by simpa using hj), List.getElem?_map]
  have hG : ∀ k, (swL G i j)[k]? = G[sw i j k]? := fun k => swL_get (by rw [h.len]; exact hi) (by rw [h.len]; exact hj) k
  have hp : ∀ id, id < G.length → sw i j id < (swL G i j).length ∧ (swL G i j)[sw i j id]? = G[id]? := fun id hid => by
    rw [swL_len, hG, sw_sw]
    exact ⟨sw_lt (by rw [h.len]; exact hi) (by rw [h.len]; exact hj) hid, rfl⟩
  have hinj : ∀ a b, sw i j a = sw i j b → a = b := fun a b e => by rw [← sw_sw i j a, e, sw_sw]
  refine ⟨by rw [swL_len, h.len]; unfold swH; rw [swL_len, List.length_map], fun k hk => ?_, fun k hk => ?_, fun k o hk => ?_, fun k => h.nodup _, fun a b c ha hb => hinj a b (h.disj _ _ c ha hb), h.zlt, fun k b hb => h.flt _ b hb, fun k b hb => h.zfp _ b hb, h.glob⟩
  · rw [hg] at hk
    rw [hG]
    cases hx : H[sw i j k]? with
    | none => rw [hx] at hk; cases hk
    | some x =>
      rw [hx] at hk
      cases x with
      | none => exact h.dead _ hx
      | some ob => simp at hk
  · refine h.nofp _ fun o ho => hk (rnO (sw i j) o) ?_
    rw [hg, ho]; rfl
  · rw [hg] at hk
    cases hx : H[sw i j k]? with
    | none => rw [hx] at hk; cases hk
    | some x =>
      rw [hx] at hk
      cases x with
      | none => simp at hk
      | some ob =>
        simp only [Option.map_some, Option.some.injEq] at hk
        subst hk
        obtain ⟨g, h1, h2⟩ := h.live _ _ hx
        exact ⟨g, by rw [hG]; exact h1, by rw [rnO_eq]; exact OB_rn hp h2⟩
def rnT (i j : Nat) (T : Nat → HV) : Nat → HV := fun t => rn (sw i j) (T t)
theorem Ghost.swap {N L : Nat} {T : Nat → HV} {H : Heap} (i j : Nat) (h1 : L ≤ i) (h2 : L ≤ j) (hi : i < H.length) (hj : j < H.length) : Ghost N L T H (rnT i j T) (swH H i j) := fun B Z G FP ds a w hL hs => by
  have hlen := hs.inv.len
  have hG : ∀ k, (swL G i j)[k]? = G[sw i j k]? := fun k => swL_get (by rw [hlen]; exact hi) (by rw [hlen]; exact hj) k
  have hp : ∀ id, id < G.length → sw i j id < (swL G i j).length ∧ (swL G i j)[sw i j id]? = G[id]? := fun id hid => by
    rw [swL_len, hG, sw_sw]
    exact ⟨sw_lt (by rw [hlen]; exact hi) (by rw [hlen]; exact hj) hid, rfl⟩
  refine ⟨Z, swL G i j, fun k => FP (sw i j k), ⟨hs.inv.swap hi hj, hs.size, fun t ht => RV_rn hp _ _ _ (hs.tmps t ht), hs.defers, hs.dsn, fun d hd => ?_⟩, ⟨by rw [swL_len]; exact hL, fun id hid => ?_⟩, ⟨rfl, rfl, rfl, Nat.le_refl _, fun _ _ _ => rfl, fun _ h => h, fun _ h => .inl h, fun k b hb => .inr ⟨_, hb⟩⟩⟩
  · obtain ⟨k1, k2, k3, k4⟩ := hs.dsat d hd
    exact ⟨k1, k2, k3, fun id => k4 _⟩
  · refine .inr (.inl ?_)
    rw [hG]
    have : sw i j id = id := by
      unfold sw
      rw [if_neg (by omega), if_neg (by omega)]
    rw [this]
section
variable {p : Nat → Nat} {T : Nat → HV}
theorem rnT_at {i j t : Nat} : rnT i j T t = rn (sw i j) (T t) := rfl
theorem sw_at {i j k : Nat} : sw i j k = if k = i then j else if k = j then i else k := rfl
theorem rn_hd {a b c : Nat} : rn p (.hd a b c) = .hd (p a) b c := rfl
theorem rn_pt {a b c d : Nat} : rn p (.pt a b c d) = .pt (p a) b c d := rfl
theorem rn_mp {a : Nat} : rn p (.mp a) = .mp (p a) := rfl
theorem rn_yl {a : Nat} : rn p (.yl a) = .yl (p a) := rfl
theorem rn_ag {cs : List HV} : rn p (.ag cs) = .ag (rnL p cs) := rfl
theorem rn_tu {cs : List HV} : rn p (.tu cs) = .tu (rnL p cs) := rfl
theorem rn_fn {f : Nat} {cs : List HV} : rn p (.fn f cs) = .fn f (rnL p cs) := rfl
theorem rn_ic {t : Nat} {x : HV} : rn p (.ic t x) = .ic t (rn p x) := rfl
theorem rn_any : rn p .any = .any := rfl
theorem rn_v {x : Value} : rn p (.v x) = .v x := rfl
theorem rn_sl {r : List (List HV)} : rn p (.sl r) = .sl r := rfl
theorem rn_ow {e s : Nat} {r : List (List HV)} : rn p (.ow e s r) = .ow e s r := rfl
theorem rn_fp {a b : Nat} {r : List (List HV)} : rn p (.fp r a b) = .fp r a b := rfl
theorem rn_bx {e s : Nat} {r : List HV} : rn p (.bx e s r) = .bx e s r := rfl
theorem rn_om {x : Obj} {r : List HV} : rn p (.om x r) = .om x r := rfl
theorem rnL_nil : rnL p [] = [] := rfl
theorem rnL_cons {h : HV} {t : List HV} : rnL p (h :: t) = rn p h :: rnL p t := rfl
theorem rnO_row {e sz : Nat} {rows : List (List HV)} : rnO p ⟨e, sz, rows⟩ = if nmR 0 rows = true then ⟨e, sz, rows⟩ else ⟨e, sz, rows.map (rnL p)⟩ := by
  unfold rnO
  cases h : nmR 0 rows <;> simp [rnR]
theorem swH_eq {H : Heap} {i j : Nat} : swH H i j = swL (H.map (Option.map (rnO (sw i j)))) i j := rfl
def swX {α : Type} (l : List α) (i j : Nat) : Option α → Option α → List α
  | some a, some b => (l.set i b).set j a
  | _, _ => l
theorem swL_x {α : Type} {l : List α} {i j : Nat} : swL l i j = swX l i j l[i]? l[j]? := by unfold swL swX; split <;> simp_all
theorem swX_some {α : Type} {l : List α} {i j : Nat} {a b : α} : swX l i j (some a) (some b) = (l.set i b).set j a := rfl
end
attribute [go_sem] rnT_at rn_hd rn_pt rn_mp rn_yl rn_ag rn_tu rn_fn rn_ic rn_any rn_v rn_sl rn_ow rn_fp rn_bx rn_om rnL_nil rnL_cons rnO_row swH_eq swL_x swX_some sw_at
end Go.Proofs.Yteieinhgdjjdoaa
namespace Go.Proofs.Yteieinhgdjjdoaa
open Go.RowKit
set_option maxRecDepth 8000
def placesT (g : List Int) (t : Int) : List Stp → Nat → Nat → List (Int × Int)
  | [], _, _ => []
  | _ :: l, n, a => if ((n : Nat) : Int) ∈ g then (t, (a : Int)) :: placesT g t l (n + 1) (a + 2) else placesT g t l (n + 1) (a + 1)
def placesF (g : List Int) : List (List Stp) → Nat → Nat → List (Int × Int)
  | [], _, _ => []
  | l :: r, t, n => placesT g t l n 0 ++ placesF g r (t + 1) (n + l.length)
abbrev owMapP (kv : List ((Int × Int) × Int)) : HV := .om (.map (esG kP kv) kv.length) []
theorem bound_put {m : List ((Int × Int) × Int)} {n : Nat} {q : Int × Int} (h : ∀ k, 0 ≤ getM m k ∧ getM m k ≤ n) : ∀ k, 0 ≤ getM (setM m q (getM m q + 1)) k ∧ getM (setM m q (getM m q + 1)) k ≤ ((n + 1 : Nat) : Int) := fun k => by
  rw [getM_setM']
  have h1 := h k
  have h2 := h q
  split <;> omega
set_option maxHeartbeats 8000000 in
theorem crossPut (p : Prg) (g : List Int) (hp : SmallP p) (hg : g.length ≤ 100000) : HFn Try.prog 39 [prgH p, .sl (ints g)] (owMapP (foldC [] (placesF g p.thr 0 0))) := by
  have hl := hp.thr
  generalize hfin : foldC [] (placesF g p.thr 0 0) = Mf
  refine HCalls_body (fn := Try.f39) 47 [4] (by kernel_rfl) rfl (by kernel_rfl) (HW.run 400 (by kernel_rfl) ?_)
  simp (config := { decide := true }) only [go_sem, Int.reduceToNat, Nat.reduceAdd, Nat.reduceSub, Nat.reduceMul, Nat.reduceBEq, reduceIte, reduceCtorEq]
  refine callX_fn 3 (crossKeys g hg) (by simp only [go_sem]) rfl ?_
  simp (config := { decide := true }) only [go_sem, Int.reduceToNat, Nat.reduceAdd, Nat.reduceSub, Nat.reduceMul, Nat.reduceBEq, reduceIte, reduceCtorEq]
  refine HW.loopG (fun k T H => ∃ (i : Nat) (m : List ((Int × Int) × Int)), k = p.thr.length - i ∧ i ≤ p.thr.length ∧ foldC m (placesF g (p.thr.drop i) i (startB p.thr i)) = Mf ∧ (∀ k, 0 ≤ getM m k ∧ getM m k ≤ (startB p.thr i : Nat)) ∧
    T 5 = .mp 1 ∧ T 6 = .mp 2 ∧ T 7 = .v (.int .i64 (startB p.thr i)) ∧ T 15 = .sl (thrs p.thr) ∧ T 16 = .v (.int .i64 p.thr.length) ∧ T 17 = .v (.int .i64 i) ∧
    H = [some ⟨25, 2, [[.sl (ints p.init), .sl (thrs p.thr)]]⟩, some (mapI (keysB g)), some (mapP m)]) p.thr.length ⟨_, _, Ghost.refl, 0, [], rfl, by omega, hfin, fun k => ⟨Int.le_refl _, Int.le_refl _⟩, rfl, rfl, rfl, rfl, rfl, rfl, rfl⟩ ?_
  rintro k T H ⟨i, m, rfl, hi, hF, hB, h5, h6, h7, h15, h16, h17, rfl⟩
  refine HW.run 200 (by kernel_rfl) ?_
  have hsb := startB_le hp i
  by_cases hlt : i < p.thr.length
  · have hlt' : ((i : Int) < (p.thr.length : Int)) = True := by rw [int_lt]; simp [hlt]
    have hx : p.thr[i]? = some p.thr[i] := List.getElem?_eq_getElem hlt
    have hxl := hp.len _ (List.getElem_mem hlt)
    have hst : startB p.thr (i + 1) = startB p.thr i + (p.thr[i]).length := by show startB p.thr i + _ = _; rw [hx]; rfl
    have hsb1 := startB_le hp (i + 1)
    have hd : p.thr.drop i = p.thr[i] :: p.thr.drop (i + 1) := List.drop_eq_getElem_cons hlt
    generalize p.thr[i] = l at hx hxl hst hd
    rw [hd] at hF
    simp only [placesF] at hF
    rw [← hst] at hF
    simp (config := { decide := true }) only [go_sem, Int.reduceToNat, Nat.reduceAdd, Nat.reduceSub, Nat.reduceMul, Nat.reduceBEq, reduceIte, reduceCtorEq, h5, h6, h7, h15, h16, h17, hlt', hx]
    refine HW.loopG (fun k T H => ∃ (j a : Nat) (m : List ((Int × Int) × Int)), k = l.length - j ∧ j ≤ l.length ∧ a ≤ 2 * j ∧ foldC m (placesT g i (l.drop j) (startB p.thr i + j) a ++ placesF g (p.thr.drop (i + 1)) (i + 1) (startB p.thr (i + 1))) = Mf ∧ (∀ k, 0 ≤ getM m k ∧ getM m k ≤ ((startB p.thr i + j : Nat) : Int)) ∧
      T 5 = .mp 1 ∧ T 6 = .mp 2 ∧ T 7 = .v (.int .i64 ((startB p.thr i + j : Nat) : Int)) ∧ T 8 = .v (.int .i64 i) ∧ T 10 = .v (.int .i64 a) ∧ T 15 = .sl (thrs p.thr) ∧ T 16 = .v (.int .i64 p.thr.length) ∧ T 17 = .v (.int .i64 i) ∧ T 23 = .v (.int .i64 l.length) ∧ T 24 = .v (.int .i64 j) ∧
      H = [some ⟨25, 2, [[.sl (ints p.init), .sl (thrs p.thr)]]⟩, some (mapI (keysB g)), some (mapP m)]) l.length ⟨_, _, Ghost.refl, 0, 0, m, rfl, by omega, by omega, hF, hB, ?_, ?_, ?_, ?_, ?_, ?_, ?_, ?_, ?_, ?_, ?_⟩ ?_
    iterate 4 simp (config := { decide := true }) only [go_sem, Nat.reduceBEq, reduceIte, h5, h6, h7, h15, h16, h17, Nat.add_zero]
    · simp (config := { decide := true }) only [go_sem, Nat.reduceBEq, reduceIte]; rfl
    iterate 4 simp (config := { decide := true }) only [go_sem, Nat.reduceBEq, reduceIte, h5, h6, h7, h15, h16, h17]
    · simp (config := { decide := true }) only [go_sem, Nat.reduceBEq, reduceIte]; rfl
    · rfl
    clear h5 h6 h7 h15 h16 h17 hF hB m T
    rintro k T H ⟨j, a, m, rfl, hj, ha, hF, hB, h5, h6, h7, h8, h10, h15, h16, h17, h23, h24, rfl⟩
    refine HW.run 200 (by kernel_rfl) ?_
    by_cases hjl : j < l.length
    · have hj' : ((j : Int) < (l.length : Int)) = True := by rw [int_lt]; simp [hjl]
      have hd : l.drop j = l[j] :: l.drop (j + 1) := List.drop_eq_getElem_cons hjl
      rw [hd] at hF
      simp only [placesT] at hF
      have hN : startB p.thr i + (j + 1) = (startB p.thr i + j) + 1 := by omega
      generalize startB p.thr i + j = n at hF hB h7 hN
      have hn : n ≤ 3000 := by omega
      have hpos := getM_keysB_pos g (n : Int)
      by_cases hin : (n : Int) ∈ g
      · rw [if_pos hin, ← hN] at hF
        have hpos' : ((0 : Int) < getM (keysB g) (n : Int)) = True := by rw [hpos]; simp [hin]
        have hbq := hB ((i : Int), (a : Int))
        have hw : IntKind.i64.wrap (getM m ((i : Int), (a : Int)) + 1) = getM m ((i : Int), (a : Int)) + 1 := w64 (by omega) (by omega)
        simp (config := { decide := true }) only [go_sem, Int.reduceToNat, Nat.reduceAdd, Nat.reduceSub, Nat.reduceMul, Nat.reduceBEq, reduceIte, reduceCtorEq, h5, h6, h7, h8, h10, h15, h16, h17, h23, h24, hj', hpos']
        refine HW.tree 1 (.light 0 (.light 1 (.light 2 (.light 3 (.heavy 4 [] (.light 5 (.heavy 6 [5] (.light 7 (.heavy 8 [] .leaf .stop)) .stop)) (.heavy 6 [] (.light 7 (.heavy 4 [7] (.light 5 (.heavy 8 [] .leaf .stop)) .stop)) .stop)))))) follows (by kernel_rfl) (by kernel_rfl) ?_
        simp (config := { decide := true }) only [go_sem, Int.reduceToNat, Nat.reduceAdd, Nat.reduceSub, Nat.reduceMul, Nat.reduceBEq, reduceIte, reduceCtorEq, h5, h6, h7, h8, h10, h15, h16, h17, h23, h24, hj', hpos', hw]
        have hcast : ((n : Int) + 1) = ((startB p.thr i + (j + 1) : Nat) : Int) := by rw [hN]; rfl
        refine ⟨?_, ?_⟩ <;> (
          refine ⟨_, _, Ghost.refl, l.length - (j + 1), by omega, j + 1, a + 2, setM m ((i : Int), (a : Int)) (getM m ((i : Int), (a : Int)) + 1), rfl, by omega, by omega, hF, ?_, ?_, ?_, ?_, ?_, ?_, ?_, ?_, ?_, ?_, ?_, ?_⟩
          · rw [hN]; exact bound_put hB
          iterate 2 simp (config := { decide := true }) only [go_sem, Nat.reduceBEq, reduceIte, h5, h6]
          · simp (config := { decide := true }) only [go_sem, Nat.reduceBEq, reduceIte]; rw [w64 (by omega) (by omega), hcast]
          · simp (config := { decide := true }) only [go_sem, Nat.reduceBEq, reduceIte, h8]
          · simp (config := { decide := true }) only [go_sem, Nat.reduceBEq, reduceIte]; rw [w64 (x := (a : Int) + 1) (by omega) (by omega), w64 (by omega) (by omega)]; rfl
          iterate 4 simp (config := { decide := true }) only [go_sem, Nat.reduceBEq, reduceIte, h15, h16, h17, h23]
          · simp (config := { decide := true }) only [go_sem, Nat.reduceBEq, reduceIte]; rw [w64 (by omega) (by omega)]; rfl
          · rfl)
      · rw [if_neg hin, ← hN] at hF
        have hpos' : ((0 : Int) < getM (keysB g) (n : Int)) = False := by rw [hpos]; simp [hin]
        simp (config := { decide := true }) only [go_sem, Int.reduceToNat, Nat.reduceAdd, Nat.reduceSub, Nat.reduceMul, Nat.reduceBEq, reduceIte, reduceCtorEq, h5, h6, h7, h8, h10, h15, h16, h17, h23, h24, hj', hpos']
        have hcast : ((n : Int) + 1) = ((startB p.thr i + (j + 1) : Nat) : Int) := by rw [hN]; rfl
        refine ⟨_, _, Ghost.refl, l.length - (j + 1), by omega, j + 1, a + 1, m, rfl, by omega, by omega, hF, ?_, ?_, ?_, ?_, ?_, ?_, ?_, ?_, ?_, ?_, ?_, rfl⟩
        · rw [hN]; exact fun k => ⟨(hB k).1, by have := (hB k).2; omega⟩
        iterate 2 simp (config := { decide := true }) only [go_sem, Nat.reduceBEq, reduceIte, h5, h6]
        · simp (config := { decide := true }) only [go_sem, Nat.reduceBEq, reduceIte]; rw [w64 (by omega) (by omega), hcast]
        · simp (config := { decide := true }) only [go_sem, Nat.reduceBEq, reduceIte, h8]
        · simp (config := { decide := true }) only [go_sem, Nat.reduceBEq, reduceIte]; rw [w64 (by omega) (by omega)]; rfl
        iterate 4 simp (config := { decide := true }) only [go_sem, Nat.reduceBEq, reduceIte, h15, h16, h17, h23]
        · simp (config := { decide := true }) only [go_sem, Nat.reduceBEq, reduceIte]; rw [w64 (by omega) (by omega)]; rfl
    · have hj' : ((j : Int) < (l.length : Int)) = False := by rw [int_lt]; simp [hjl]
      rw [List.drop_eq_nil_of_le (by omega)] at hF
      simp (config := { decide := true }) only [go_sem, Int.reduceToNat, Nat.reduceAdd, Nat.reduceSub, Nat.reduceMul, Nat.reduceBEq, reduceIte, reduceCtorEq, h5, h6, h7, h8, h10, h15, h16, h17, h23, h24, hj']
      have e : startB p.thr i + j = startB p.thr (i + 1) := by omega
      refine ⟨_, _, Ghost.refl, p.thr.length - (i + 1), by omega, i + 1, m, rfl, by omega, hF, ?_, ?_, ?_, ?_, ?_, ?_, ?_, rfl⟩
      · rw [← e]; exact hB
      iterate 2 simp (config := { decide := true }) only [go_sem, Nat.reduceBEq, reduceIte, h5, h6]
      · simp (config := { decide := true }) only [go_sem, Nat.reduceBEq, reduceIte, h7]; rw [e]
      iterate 2 simp (config := { decide := true }) only [go_sem, Nat.reduceBEq, reduceIte, h15, h16]
      · simp (config := { decide := true }) only [go_sem, Nat.reduceBEq, reduceIte]; rw [w64 (by omega) (by omega)]; rfl
  · have hlt' : ((i : Int) < (p.thr.length : Int)) = False := by rw [int_lt]; simp [hlt]
    rw [List.drop_eq_nil_of_le (by omega)] at hF
    have hF : m = Mf := hF
    subst hF
    simp (config := { decide := true }) only [go_sem, Int.reduceToNat, Nat.reduceAdd, Nat.reduceSub, Nat.reduceMul, Nat.reduceBEq, reduceIte, reduceCtorEq, h5, h6, h7, h15, h16, h17, hlt']
    exact ⟨rfl, rfl⟩
end Go.Proofs.Yteieinhgdjjdoaa
namespace Go.Proofs.Yteieinhgdjjdoaa
open Go.RowKit
set_option maxRecDepth 8000
theorem HFn_sl {P : Program} {f : FuncId} {rows : List (List HV)} {R : HV} (h1 : rows.isEmpty = false → HFn P f [.sl rows] R) (h0 : rows = [] → ∀ a c, HFn P f [.v (.slice a 0 c)] R) : HFn P f [.sl rows] R := by
  cases hr : rows.isEmpty with
  | false => exact h1 hr
  | true =>
    obtain rfl : rows = [] := List.isEmpty_iff.1 hr
    refine ⟨(h0 rfl none 0).1, fun Z G FP w vals hi ha => ?_⟩
    simp only [RL, RV] at ha
    obtain ⟨y, ys, f1, f2, rfl, _, ⟨_, a, c, rfl, _⟩, rfl, _⟩ := ha
    exact (h0 rfl a c).2 Z G FP w _ hi (by simp only [RL, RV]; exact ⟨_, _, [], [], rfl, rfl, ⟨rfl, rfl⟩, rfl, rfl⟩)
set_option maxHeartbeats 4000000 in
theorem cloneInts (l : List Int) (hl : l.length ≤ 100000000) : HFn Try.prog 62 [.sl (ints l)] (owInts l) := by
  refine HFn_sl (fun hr => ?_) (fun hr a c => ?_)
  · refine HCalls_body (fn := Try.f62) 8 [2] (by kernel_rfl) rfl (by kernel_rfl) (HW.run 400 (by kernel_rfl) ?_)
    simp (config := { decide := true }) only [go_sem, Int.reduceToNat, Nat.reduceAdd, Nat.reduceSub, Nat.reduceMul, Nat.reduceBEq, reduceIte, reduceCtorEq, hr]
    (with_reducible and_intros) <;> first | omega | rfl
  · obtain rfl : l = [] := by cases l with | nil => rfl | cons a l => cases hr
    refine HCalls.conv (Q := fun x _ => x = .v (.slice none 0 0) ∨ x = owInts []) ?_ ?_
    · refine HCalls_body (fn := Try.f62) 8 [2] (by kernel_rfl) rfl (by kernel_rfl) (HW.run 400 (by kernel_rfl) ?_)
      cases a with
      | none => simp (config := { decide := true }) only [go_sem, Int.reduceToNat, Nat.reduceAdd, Nat.reduceSub, Nat.reduceMul, Nat.reduceBEq, reduceIte, reduceCtorEq]
      | some a => simp (config := { decide := true }) only [go_sem, Int.reduceToNat, Nat.reduceAdd, Nat.reduceSub, Nat.reduceMul, Nat.reduceBEq, reduceIte, reduceCtorEq]; exact .inr rfl
    · rintro x H' (rfl | rfl)
      · exact ⟨_, rfl, .inr ⟨rfl, Conv.nilOw _ _⟩⟩
      · exact ⟨_, rfl, .inl rfl⟩
set_option maxHeartbeats 4000000 in
theorem cloneThds (l : List Thd) (hl : l.length ≤ 100000000) : HFn Try.prog 74 [.sl (thds l)] (.ow 50 4 (thds l)) := by
  refine HFn_sl (fun hr => ?_) (fun hr a c => ?_)
  · refine HCalls_body (fn := Try.f74) 8 [2] (by kernel_rfl) rfl (by kernel_rfl) (HW.run 400 (by kernel_rfl) ?_)
    simp (config := { decide := true }) only [go_sem, Int.reduceToNat, Nat.reduceAdd, Nat.reduceSub, Nat.reduceMul, Nat.reduceBEq, reduceIte, reduceCtorEq, hr]
    (with_reducible and_intros) <;> first | omega | rfl
  · obtain rfl : l = [] := by cases l with | nil => rfl | cons a l => cases hr
    refine HCalls.conv (Q := fun x _ => x = .v (.slice none 0 0) ∨ x = .ow 50 4 (thds [])) ?_ ?_
    · refine HCalls_body (fn := Try.f74) 8 [2] (by kernel_rfl) rfl (by kernel_rfl) (HW.run 400 (by kernel_rfl) ?_)
      cases a with
      | none => simp (config := { decide := true }) only [go_sem, Int.reduceToNat, Nat.reduceAdd, Nat.reduceSub, Nat.reduceMul, Nat.reduceBEq, reduceIte, reduceCtorEq]
      | some a => simp (config := { decide := true }) only [go_sem, Int.reduceToNat, Nat.reduceAdd, Nat.reduceSub, Nat.reduceMul, Nat.reduceBEq, reduceIte, reduceCtorEq]
    · rintro x H' (rfl | rfl)
      · exact ⟨_, rfl, .inr ⟨rfl, Conv.nilOw _ _⟩⟩
      · exact ⟨_, rfl, .inl rfl⟩
set_option maxHeartbeats 4000000 in
theorem cloneWrts (l : List (Int × Int)) (hl : l.length ≤ 100000000) : HFn Try.prog 75 [.sl (wrts l)] (.ow 104 2 (wrts l)) := by
  refine HFn_sl (fun hr => ?_) (fun hr a c => ?_)
  · refine HCalls_body (fn := Try.f75) 8 [2] (by kernel_rfl) rfl (by kernel_rfl) (HW.run 400 (by kernel_rfl) ?_)
    simp (config := { decide := true }) only [go_sem, Int.reduceToNat, Nat.reduceAdd, Nat.reduceSub, Nat.reduceMul, Nat.reduceBEq, reduceIte, reduceCtorEq, hr]
    (with_reducible and_intros) <;> first | omega | rfl
  · obtain rfl : l = [] := by cases l with | nil => rfl | cons a l => cases hr
    refine HCalls.conv (Q := fun x _ => x = .v (.slice none 0 0) ∨ x = .ow 104 2 (wrts [])) ?_ ?_
    · refine HCalls_body (fn := Try.f75) 8 [2] (by kernel_rfl) rfl (by kernel_rfl) (HW.run 400 (by kernel_rfl) ?_)
      cases a with
      | none => simp (config := { decide := true }) only [go_sem, Int.reduceToNat, Nat.reduceAdd, Nat.reduceSub, Nat.reduceMul, Nat.reduceBEq, reduceIte, reduceCtorEq]
      | some a => simp (config := { decide := true }) only [go_sem, Int.reduceToNat, Nat.reduceAdd, Nat.reduceSub, Nat.reduceMul, Nat.reduceBEq, reduceIte, reduceCtorEq]
    · rintro x H' (rfl | rfl)
      · exact ⟨_, rfl, .inr ⟨rfl, Conv.nilOw _ _⟩⟩
      · exact ⟨_, rfl, .inl rfl⟩
end Go.Proofs.Yteieinhgdjjdoaa
