/- Parts of the proof: Lk, Cu, De, Ct, Cq, Cs, Sw, Sr, St, Pb, Pc, Pd. -/
import Derived.Shelf.SlIterI.Nil
import Derived.Shelf.SortM.Plain
import Derived.Shelf.SortM.SortNone
import Derived.Test.YteieinhgdjjdoaaProg
import Derived.KernelRfl
import Derived.Test.YteieinhgdjjdoaaZd10
import Derived.Test.YteieinhgdjjdoaaZd09
import Derived.Test.YteieinhgdjjdoaaZd12
import Derived.Test.YteieinhgdjjdoaaZd11
set_option linter.unusedSectionVars false
set_option linter.unusedVariables false
set_option linter.unusedSimpArgs false
namespace Go.Proofs.Yteieinhgdjjdoaa
open Go.Shelf
set_option maxRecDepth 100000
def keysL_ren : Go.Shelf.Ren := ⟨fun | 7 => 34 | 10 => 56 | n => n, fun | 23 => 64 | 26 => 3 | 3 => 3 | 28 => 73 | 0 => 0 | 27 => 72 | 33 => 95 | 4 => 4 | n => n, fun | n => n⟩
theorem keysL : Go.Proofs.SlLaysZI.n7 Try.prog keysL_ren where
  mixed := by kernel_rfl
  f7 := ⟨"maps.Keys[map[int]int,int,int]", by decide, Try.func34.trans (congrArg some (by kernel_rfl))⟩
  f10 := ⟨"maps.Keys[map[int]int,int,int]$1", by decide, Try.func56.trans (congrArg some (by kernel_rfl))⟩
  t0 := Try.underlying0
  a0 := Try.isAgg0
  z0 := Try.sizeOf0
  v0 := Try.zeroValue0
  t4 := Try.underlying4
  a4 := Try.isAgg4
  z4 := Try.sizeOf4
  v4 := Try.zeroValue4
  t23 := Try.underlying64
  a23 := Try.isAgg64
  z23 := Try.sizeOf64
  v23 := Try.zeroValue64
  t26 := Try.underlying3
  a26 := Try.isAgg3
  z26 := Try.sizeOf3
  v26 := Try.zeroValue3
  t27 := Try.underlying72
  a27 := Try.isAgg72
  z27 := Try.sizeOf72
  v27 := Try.zeroValue72
  t28 := Try.underlying73
  a28 := Try.isAgg73
  z28 := Try.sizeOf73
  v28 := Try.zeroValue73
  t33 := Try.underlying95
  a33 := Try.isAgg95
  z33 := Try.sizeOf95
  v33 := Try.zeroValue95
def sortedL_ren : Go.Shelf.Ren := ⟨fun | 6 => 33 | 8 => 54 | 9 => 55 | 11 => 69 | 13 => 71 | 12 => 70 | 23 => 90 | 24 => 91 | 14 => 81 | 15 => 82 | 16 => 83 | 17 => 84 | 18 => 85 | 19 => 86 | 20 => 87 | 21 => 88 | 22 => 89 | 25 => 95 | 26 => 96 | 27 => 97 | 28 => 98 | 29 => 99 | 30 => 100 | 31 => 102 | n => n, fun | 26 => 3 | 28 => 73 | 24 => 22 | 0 => 0 | 3 => 3 | 37 => 112 | 48 => 128 | 50 => 130 | 4 => 4 | 40 => 121 | 39 => 120 | 45 => 100 | 5 => 5 | 9 => 9 | 51 => 135 | 55 => 139 | 57 => 145 | 58 => 146 | 33 => 95 | n => n, fun | n => n⟩
theorem sortedL : Go.Proofs.SlLaysZI.n6 Try.prog sortedL_ren where
  mixed := by kernel_rfl
  f6 := ⟨"slices.Sorted[int]", by decide, Try.func33.trans (congrArg some (by kernel_rfl))⟩
  f8 := ⟨"slices.Collect[int]", by decide, Try.func54.trans (congrArg some (by kernel_rfl))⟩
  f11 := ⟨"slices.AppendSeq[[]int,int]", by decide, Try.func69.trans (congrArg some (by kernel_rfl))⟩
  t0 := Try.underlying0
  a0 := Try.isAgg0
  z0 := Try.sizeOf0
  v0 := Try.zeroValue0
  t24 := Try.underlying22
  a24 := Try.isAgg22
  z24 := Try.sizeOf22
  v24 := Try.zeroValue22
  t26 := Try.underlying3
  a26 := Try.isAgg3
  z26 := Try.sizeOf3
  v26 := Try.zeroValue3
  t28 := Try.underlying73
  a28 := Try.isAgg73
  z28 := Try.sizeOf73
  v28 := Try.zeroValue73
  i26 := by kernel_rfl
def sortL_ren : Go.Shelf.Ren := ⟨fun | 5 => 55 | 8 => 71 | 7 => 70 | 19 => 90 | 20 => 91 | 10 => 81 | 11 => 82 | 12 => 83 | 13 => 84 | 14 => 85 | 15 => 86 | 16 => 87 | 17 => 88 | 18 => 89 | 30 => 95 | 31 => 96 | 32 => 97 | 33 => 98 | 34 => 99 | 35 => 100 | 40 => 102 | n => n, fun | 23 => 22 | 25 => 3 | 3 => 3 | 32 => 112 | 22 => 22 | 0 => 0 | 44 => 128 | 46 => 130 | 4 => 4 | 36 => 121 | 35 => 120 | 41 => 100 | 5 => 5 | 9 => 9 | 53 => 135 | 57 => 139 | 63 => 145 | 64 => 146 | n => n, fun | n => n⟩
theorem sortL : Go.Proofs.SlLaysM.n5 Try.prog sortL_ren where
  mixed := by kernel_rfl
  f5 := ⟨"slices.Sort[[]int,int]", by decide, Try.func55.trans (congrArg some (by kernel_rfl))⟩
  f7 := ⟨"slices.pdqsortOrdered[int]", by decide, Try.func70.trans (congrArg some (by kernel_rfl))⟩
  f8 := Try.func71.trans (congrArg some (by kernel_rfl))
  f10 := ⟨"slices.insertionSortOrdered[int]", by decide, Try.func81.trans (congrArg some (by kernel_rfl))⟩
  f11 := ⟨"slices.heapSortOrdered[int]", by decide, Try.func82.trans (congrArg some (by kernel_rfl))⟩
  f12 := ⟨"slices.breakPatternsOrdered[int]", by decide, Try.func83.trans (congrArg some (by kernel_rfl))⟩
  f13 := ⟨"slices.choosePivotOrdered[int]", by decide, Try.func84.trans (congrArg some (by kernel_rfl))⟩
  f14 := ⟨"slices.reverseRangeOrdered[int]", by decide, Try.func85.trans (congrArg some (by kernel_rfl))⟩
  f15 := ⟨"slices.partialInsertionSortOrdered[int]", by decide, Try.func86.trans (congrArg some (by kernel_rfl))⟩
  f16 := ⟨"cmp.Less[int]", by decide, Try.func87.trans (congrArg some (by kernel_rfl))⟩
  f17 := ⟨"slices.partitionEqualOrdered[int]", by decide, Try.func88.trans (congrArg some (by kernel_rfl))⟩
  f18 := ⟨"slices.partitionOrdered[int]", by decide, Try.func89.trans (congrArg some (by kernel_rfl))⟩
  f19 := Try.func90.trans (congrArg some (by kernel_rfl))
  f20 := Try.func91.trans (congrArg some (by kernel_rfl))
  f30 := ⟨"slices.siftDownOrdered[int]", by decide, Try.func95.trans (congrArg some (by kernel_rfl))⟩
  f31 := Try.func96.trans (congrArg some (by kernel_rfl))
  f32 := Try.func97.trans (congrArg some (by kernel_rfl))
  f33 := ⟨"slices.medianAdjacentOrdered[int]", by decide, Try.func98.trans (congrArg some (by kernel_rfl))⟩
  f34 := ⟨"slices.medianOrdered[int]", by decide, Try.func99.trans (congrArg some (by kernel_rfl))⟩
  f35 := ⟨"cmp.isNaN[int]", by decide, Try.func100.trans (congrArg some (by kernel_rfl))⟩
  f40 := ⟨"slices.order2Ordered[int]", by decide, Try.func102.trans (congrArg some (by kernel_rfl))⟩
  t0 := Try.underlying0
  a0 := Try.isAgg0
  z0 := Try.sizeOf0
  v0 := Try.zeroValue0
  t3 := Try.underlying3
  a3 := Try.isAgg3
  z3 := Try.sizeOf3
  v3 := Try.zeroValue3
  t4 := Try.underlying4
  a4 := Try.isAgg4
  z4 := Try.sizeOf4
  v4 := Try.zeroValue4
  t5 := Try.underlying5
  a5 := Try.isAgg5
  z5 := Try.sizeOf5
  v5 := Try.zeroValue5
  t9 := Try.underlying9
  a9 := Try.isAgg9
  z9 := Try.sizeOf9
  v9 := Try.zeroValue9
  t22 := Try.underlying22
  a22 := Try.isAgg22
  z22 := Try.sizeOf22
  v22 := Try.zeroValue22
  t23 := Try.underlying22
  a23 := Try.isAgg22
  z23 := Try.sizeOf22
  v23 := Try.zeroValue22
  t25 := Try.underlying3
  a25 := Try.isAgg3
  z25 := Try.sizeOf3
  v25 := Try.zeroValue3
  t32 := Try.underlying112
  a32 := Try.isAgg112
  z32 := Try.sizeOf112
  v32 := Try.zeroValue112
  t35 := Try.underlying120
  a35 := Try.isAgg120
  z35 := Try.sizeOf120
  v35 := Try.zeroValue120
  t36 := Try.underlying121
  a36 := Try.isAgg121
  z36 := Try.sizeOf121
  v36 := Try.zeroValue121
  t41 := Try.underlying100
  a41 := Try.isAgg100
  z41 := Try.sizeOf100
  v41 := Try.zeroValue100
  t44 := Try.underlying128
  a44 := Try.isAgg128
  z44 := Try.sizeOf128
  v44 := Try.zeroValue128
  t46 := Try.underlying130
  a46 := Try.isAgg130
  z46 := Try.sizeOf130
  v46 := Try.zeroValue130
  t53 := Try.underlying135
  a53 := Try.isAgg135
  z53 := Try.sizeOf135
  v53 := Try.zeroValue135
  t57 := Try.underlying139
  a57 := Try.isAgg139
  z57 := Try.sizeOf139
  v57 := Try.zeroValue139
  t63 := Try.underlying145
  a63 := Try.isAgg145
  z63 := Try.sizeOf145
  v63 := Try.zeroValue145
  t64 := Try.underlying146
  a64 := Try.isAgg146
  z64 := Try.sizeOf146
  v64 := Try.zeroValue146
end Go.Proofs.Yteieinhgdjjdoaa
namespace Go.Proofs.Yteieinhgdjjdoaa
open Go.RowKit
open Go.WideElems (Fit rd rg rd_mk rg_of)
set_option maxRecDepth 8000
theorem Ghost.hole {N L : Nat} {T : Nat → HV} {H : Heap} (e : TypeId) (sz : Nat) : Ghost N L T H T (H ++ [some ⟨e, sz, []⟩]) := fun B Z G FP ds a w hL hs => by
  have hinv := hs.inv.new (w' := w) (o := ⟨e, sz, []⟩) (g := ⟨none, e, sz, 0, 0⟩) (fp := []) (Nat.le_refl _) (fun _ _ => rfl) ⟨rfl, rfl, rfl, by simp, .inl ⟨rfl, rfl, rfl⟩⟩ (by simp) (by simp)
  have hE : Evo Z FP w Z (fun j => if j = H.length then [] else FP j) w := evo_new (hs.inv.nofp _ (by simp)) rfl rfl rfl (Nat.le_refl _) (fun _ _ => rfl) (by simp)
  exact ⟨Z, _, _, hs.evo hinv (GLe.more _) hE, GLt.of hL (GLe.more _), hE⟩
abbrev mapBox (id : Nat) : HObj := ⟨64, 1, [[.mp id]]⟩
theorem mapsKeys {H : Heap} {id j : Nat} {kv : List (Int × Int)} (hid : H[id]? = some (some (mapI kv))) (hj : H[j]? = some (some ⟨64, 1, []⟩)) :
    HCalls Try.prog 34 H [.mp id] (fun r H' => r = .fn 56 [.pt j 1 0 0] ∧ H' = H.set j (some (mapBox id))) := by
  refine ⟨fun vals w => enters_of (P := Try.prog) Try.func34 (by kernel_rfl) rfl vals w, fun Z G FP w vals hi ha => ?_⟩
  simp only [RL] at ha
  obtain ⟨y, ys, f1, f2, rfl, e1, hv, rfl, rfl⟩ := ha
  obtain ⟨rfl, -⟩ : f1 = [] ∧ True := by simpa using e1
  obtain ⟨r, rfl, hg, hfp, hb⟩ := map_at hi hid hv
  have hne : id ≠ j := fun e => by rw [e, hj] at hid; simp [mapI, mapG, mapObj] at hid
  obtain ⟨gj, hgj, hobj⟩ := hi.live j _ hj
  have hn0 : gj.n = 0 := hobj.n
  have cK : Calls Try.prog 34 #[.map (some r)] w fun e w' => e = .returned (.func (.func 56) #[] #[.pointer (some ⟨w.heap.size, 0, none⟩)]) ∧ w' = w.alloc (.cells #[.map (some r)] 64) :=
    callsIn_wide.1 (AnyZI.keys_in keysL Fence.wide 5 trivial rfl (some r) w)
  refine Calls.mono cK ?_
  rintro e w' ⟨rfl, rfl⟩
  have hnew := heap_alloc_new w (.cells #[.map (some r)] 64)
  have hold : ∀ b, b < w.heap.size → (w.alloc (.cells #[.map (some r)] 64)).heap[b]? = w.heap[b]? := fun b hb => Below.heap_alloc w _ b hb
  have hlt : j < G.length := hi.lt hj
  have hset : ∀ k, k ≠ j → (G.set j (some (some ⟨some w.heap.size, 64, 1, 1, 1⟩ : Option OG)).join)[k]? = G[k]? := fun k hk => by simp [List.getElem?_set, Ne.symm hk]
  have hmp : RV Z (G.set j (some ⟨some w.heap.size, 64, 1, 1, 1⟩)) (w.alloc (.cells #[.map (some r)] 64)) (.mp id) (.map (some r)) [] := by
    simp only [RV]
    refine ⟨trivial, rfl, by rw [List.length_set]; exact hi.lt hid, fun g hg' => ?_⟩
    rw [List.getElem?_set_ne (Ne.symm hne), hg] at hg'
    cases hg'
    exact ⟨Nat.le_refl _, fun _ _ => rfl⟩
  have hinv := hi.turn (w' := w.alloc (.cells #[.map (some r)] 64)) (o' := mapBox id) (g' := ⟨some w.heap.size, 64, 1, 1, 1⟩) (fp' := [w.heap.size]) hj hgj (.inr (by rw [hn0]; exact Nat.one_pos)) (by simp) (fun b hb _ => hold b hb)
    ⟨rfl, rfl, rfl, by simp, .inr (.inl ⟨w.heap.size, #[.map (some r)], [], rfl, rfl, hnew, by simp, by simp, by simp [maxLen], by
      simp only [RR, RC]
      refine ⟨[], [], rfl, ⟨_, [], [], rfl, ?_, rfl, hmp, rfl⟩, rfl⟩
      unfold World.cell?; rw [hnew]; rfl⟩)⟩ (by simp) (fun b hb => by
        obtain rfl := List.mem_singleton.1 hb
        refine ⟨fun hz => ?_, by simp, fun k _ hc => ?_⟩
        · have := hi.zlt _ hz; omega
        · have := hi.flt k _ hc; omega)
  refine ⟨_, _, _, _, _, _, [], rfl, ⟨rfl, rfl⟩, by simp, hinv, ?_, by simp, by simp, by simp, GLe.set hgj (.inr (by rw [hn0]; exact Nat.one_pos)), evo_turn rfl rfl rfl (by simp) (fun b hb _ => hold b hb) (fun b hb => by
    obtain rfl := List.mem_singleton.1 hb
    exact .inl (Nat.le_refl _))⟩
  simp only [RV]
  refine ⟨#[.pointer (some ⟨w.heap.size, 0, none⟩)], (fnV_lt (by decide) _).symm, ?_⟩
  simp only [RL, RV]
  refine ⟨_, _, [], [], rfl, rfl, ⟨rfl, rfl, by rw [List.length_set]; exact hlt, fun g hg' => ?_⟩, rfl, rfl⟩
  rw [List.getElem?_set_self hlt] at hg'
  cases hg'
  exact ⟨Nat.le_refl _, fun _ => ⟨_, rfl, by simp⟩⟩
theorem RR_intsAt {Z : Nat → Prop} {w : World} {b : Nat} : ∀ (xs : List Int) (k : Nat), (∀ (i : Nat) x, xs[i]? = some x → w.cell? ⟨b, k + i, none⟩ = some (.int .i64 x)) → RR Z [] w (ints xs) b k []
  | [], k, _ => by simp [ints, RR]
  | x :: xs, k, h => by
    show RR Z [] w ([.v (.int .i64 x)] :: ints xs) b k []
    simp only [RR, RC, RV]
    refine ⟨[], [], rfl, ⟨_, [], [], rfl, by have := h 0 x rfl; simpa using this, rfl, ⟨rfl, rfl⟩, rfl⟩, ?_⟩
    refine RR_intsAt xs (k + 1) fun i y hy => ?_
    rw [show k + 1 + i = k + (i + 1) by omega]
    exact h (i + 1) y (by simpa using hy)
def unitR : Value → Option (DataW Unit × List MemPlace) := fun _ => some (.nil, [])
theorem esL_mem {kv : List (Int × Int)} {x : MapEntry} : ∀ {n : Nat}, x ∈ esL kI n kv → ∃ e ∈ kv, x.key = .int .i64 e.1 ∧ n ≤ x.born ∧ x.born < n + kv.length := by
  induction kv with
  | nil => intro n h; simp [esL] at h
  | cons e r ih =>
    intro n h
    simp only [esL, List.mem_cons] at h
    rcases h with rfl | h
    · exact ⟨e, by simp, rfl, Nat.le_refl _, by simp⟩
    · obtain ⟨e', h1, h2, h3, h4⟩ := ih h
      exact ⟨e', by simp [h1], h2, by omega, by simp only [List.length_cons]; omega⟩
theorem esL_stamped {kv : List (Int × Int)} (hnd : (kv.map (·.1)).Nodup) : ∀ n, ((esL kI n kv).map (·.born)).Nodup ∧ (esL kI n kv).Pairwise (fun x y => x.key ≠ y.key) := by
  induction kv with
  | nil => intro n; simp [esL]
  | cons e r ih =>
    intro n
    simp only [List.map_cons, List.nodup_cons] at hnd
    obtain ⟨h1, h2⟩ := ih hnd.2 (n + 1)
    simp only [esL, List.map_cons, List.nodup_cons, List.pairwise_cons]
    refine ⟨⟨fun hm => ?_, h1⟩, fun y hy hk => ?_, h2⟩
    · obtain ⟨y, hy, he⟩ := List.mem_map.1 hm
      obtain ⟨_, _, _, h3, _⟩ := esL_mem hy
      omega
    · obtain ⟨e', h3, h4, _, _⟩ := esL_mem hy
      rw [h4] at hk
      simp at hk
      exact hnd.1 (hk ▸ List.mem_map.2 ⟨e', h3, rfl⟩)
theorem keys_read {kv : List (Int × Int)} (hr : ∀ e ∈ kv, -1000000 ≤ e.1 ∧ e.1 ≤ 1000000) : ∀ n, (esL kI n kv).map (rg (H := Unit) Try.prog 3 unitR) = kv.map (fun e => (Lit.int .i64 e.1, DataW.nil)) ∧ ∀ x ∈ esL kI n kv, ∃ y, rd (H := Unit) Try.prog 3 unitR x = some y := by
  induction kv with
  | nil => intro n; simp [esL]
  | cons e r ih =>
    intro n
    obtain ⟨h1, h2⟩ := ih (fun e' h => hr e' (by simp [h])) (n + 1)
    have hw : (Lit.int .i64 e.1).wf = true := by
      have := hr e (by simp)
      have h1 : IntKind.i64.min = -9223372036854775808 := by decide
      have h2 : IntKind.i64.max = 9223372036854775807 := by decide
      simp only [Lit.wf, h1, h2, Bool.and_eq_true, decide_eq_true_eq]
      omega
    have hk : keyOf Try.prog 3 (.int .i64 e.1) = some (.int .i64 e.1) := Go.Maps.keyOf_int_mk Try.underlying3 hw
    have hd : rd (H := Unit) Try.prog 3 unitR ⟨.int .i64 e.1, .int .i64 e.2, n⟩ = some (.int .i64 e.1, .nil) := rd_mk (yv := (.nil, [])) hk rfl
    refine ⟨?_, fun x hx => ?_⟩
    · simp only [esL, List.map_cons, h1]
      rw [rg_of hd]
    · simp only [esL, List.mem_cons] at hx
      rcases hx with rfl | hx
      · exact ⟨_, hd⟩
      · exact h2 x hx
theorem sortsL (m : Nat) : AnyZI.SortsIn Try.prog sortedL_ren Fence.wide m :=
  ⟨fun blk off cap ss W hH hblk hsz => callsIn_wide.2 (AnyM.slices_Sort_int sortL blk off cap ss W hH hblk hsz),
   fun p cap W => callsIn_wide.2 (AnyM.slices_Sort_int_none sortL p cap W)⟩
def sortedM (kv : List (Int × Int)) : List Int := (kv.map (·.1)).mergeSort fun x y => decide (x ≤ y)
set_option maxHeartbeats 1000000 in
theorem slicesSorted {H : Heap} {id j : Nat} {kv : List (Int × Int)} (hid : H[id]? = some (some (mapI kv))) (hj : H[j]? = some (some (mapBox id))) (hnd : (kv.map (·.1)).Nodup) (hr : ∀ e ∈ kv, -1000000 ≤ e.1 ∧ e.1 ≤ 1000000) (hlen : kv.length ≤ 1000000) :
    HCalls Try.prog 33 H [.fn 56 [.pt j 1 0 0]] (fun r H' => r = owInts (sortedM kv) ∧ H' = H) := by
  refine ⟨fun vals w => enters_of (P := Try.prog) Try.func33 (by kernel_rfl) rfl vals w, fun Z G FP w vals hi ha => ?_⟩
  simp only [RL] at ha
  obtain ⟨y, ys, f1, f2, rfl, e1, hv, rfl, rfl⟩ := ha
  obtain ⟨rfl, -⟩ : f1 = [] ∧ True := by simpa using e1
  rw [RV] at hv
  obtain ⟨zs, rfl, hv⟩ := hv
  rw [fnV_lt (by decide)]
  obtain ⟨zs⟩ := zs
  simp only [RL] at hv
  obtain ⟨q, ys, f1, f2, rfl, e2, hq, rfl, rfl⟩ := hv
  obtain ⟨rfl, -⟩ : f1 = [] ∧ True := by simpa using e2
  obtain ⟨g, b, cells, f, hg, hob, hgb, hfp, hb, hcs, hc1, hc2, hrr, rfl, _⟩ := pt_at hi hj rfl rfl hq
  simp only [RR, RC] at hrr
  obtain ⟨_, _, _, ⟨mv, _, _, _, hcell, _, hmv, _⟩, _⟩ := hrr
  have hmv' : RV Z G w (.mp id) mv [] := by
    simp only [RV] at hmv ⊢
    exact ⟨trivial, hmv.2⟩
  obtain ⟨r, rfl, _, _, hrb⟩ := map_at hi hid hmv'
  have hbl : b < w.heap.size := (Array.getElem?_eq_some_iff.1 hb).1
  obtain ⟨h1, h2⟩ := keys_read hr 0
  have htl : (esG kI kv).toList = esL kI 0 kv := by unfold esG; rw [List.toList_toArray]
  let D0 : DataW Unit := .map (((esG kI kv).toList.map (rg Try.prog 3 unitR)).foldr DataW.insert [])
  have hsz : Go.Maps.size D0 = kv.length := by
    show (((esG kI kv).toList.map (rg Try.prog 3 unitR)).foldr DataW.insert []).length = _
    rw [length_sorted, List.length_map, htl, esL_length]
  have hown : w.ownsMap Try.prog 3 unitR r kv.length D0 := by
    refine ⟨esG kI kv, kv.length, hrb, ⟨?_, ?_, fun x hx => h2 x (htl ▸ hx)⟩, ?_, rfl⟩
    · rw [← Array.length_toList, htl, esL_length]; unfold maxLen; omega
    · rw [Go.MapKept.stamped_iff, htl]
      obtain ⟨k1, k2⟩ := esL_stamped hnd 0
      exact ⟨fun x hx => by obtain ⟨_, _, _, _, k⟩ := esL_mem hx; omega, k1, k2⟩
    · rw [← Array.length_toList, htl, esL_length]; exact Nat.le_refl _
  have hperm : (intKeys D0).Perm (kv.map (·.1)) := by
    show ((((esG kI kv).toList.map (rg Try.prog 3 unitR)).foldr DataW.insert []).map fun p => Go.intOf p.1).Perm _
    refine ((Go.WideShapes.sorted_perm _).map _).trans ?_
    rw [htl, h1, List.map_map]
    exact List.Perm.refl _
  have hcb : w.cell? ⟨b, 0, none⟩ = some (.map (some r)) := by simpa using hcell
  have hseq : Go.SeqGives Fence.wide 2 Try.prog 56 #[.pointer (some ⟨b, 0, none⟩)] encZ (fun ss => ss.Perm (intKeys D0)) (Go.Maps.size D0) w :=
    AnyZI.keys_gives (ρ := keysL_ren) { keysL with } Fence.wide 2 trivial rfl (by omega) b r kv.length D0 w hbl hcb hown
  have cS := AnyZI.sorted_in sortedL Fence.wide 5 trivial trivial trivial trivial rfl (by omega) (sortsL _) (enters_of Try.func55 (by kernel_rfl) rfl) 56 #[.pointer (some ⟨b, 0, none⟩)] trivial (enters_of Try.func56 (by kernel_rfl) rfl) _ _ (by rw [hsz]; unfold maxLen; omega) (by rw [hsz]; omega) w hseq
  have cS' : Calls Try.prog 33 #[.func (.func 56) #[] #[.pointer (some ⟨b, 0, none⟩)]] w _ := callsIn_wide.1 cS
  have hy : (Value.pointer (some ⟨b, 0 * (mapBox id).sz + 0, none⟩)) = .pointer (some ⟨b, 0, none⟩) := by simp
  rw [hy]
  refine Calls.mono cS' ?_
  rintro e w' ⟨v, ss, rfl, hS, hrow, hnil, hbw⟩
  have hsort : (ss.mergeSort fun x y => decide (x ≤ y)) = sortedM kv := mergeSort_of_perm_i (hS.trans hperm)
  rw [hsort] at hrow
  have hlen2 : (sortedM kv).length = ss.length := by rw [← hsort, List.length_mergeSort]
  have hold : ∀ k, k < w.heap.size → w'.heap[k]? = w.heap[k]? := hbw.block
  have hi' : HInv Z G FP H w' := hi.keep hbw.size fun k hk => hold k (by
    rcases hk with hk | ⟨i, hk⟩
    · exact hi.zlt k hk
    · exact hi.flt i k hk)
  have hEv : Evo Z FP w Z FP w' := ⟨hbw.os, hbw.tape, hbw.output, hbw.size, fun k hk _ => hold k hk, fun _ h => h, fun _ h => .inl h, fun i k hk => .inr ⟨i, hk⟩⟩
  rcases hrow.2 with ⟨rfl, h0⟩ | ⟨gb, cap, cur, rfl, hbase, hgb', r1, r2, r3, r4⟩
  · refine ⟨_, _, H, Z, G, FP, [], rfl, ⟨rfl, rfl⟩, rfl, hi', ?_, by simp, by simp, by simp, GLe.refl _, hEv⟩
    have : sortedM kv = [] := List.eq_nil_of_length_eq_zero (by omega)
    rw [this]
    simp only [RV]
    exact .inl ⟨rfl, trivial, trivial⟩
  · have hgl : gb < w'.heap.size := (Array.getElem?_eq_some_iff.1 hgb').1
    refine ⟨_, _, H, Z, G, FP, [gb], rfl, ⟨rfl, rfl⟩, rfl, hi', ?_, by simp, fun k hk => ?_, fun k hk => ?_, GLe.refl _, hEv⟩
    · simp only [RV]
      refine .inr ⟨gb, cap, cur, [], by rw [ints_length, hlen2], rfl, hgb', r3, by rw [ints_length]; omega, r2, fun r hr => ?_, ?_⟩
      · obtain ⟨_, _, rfl⟩ := List.mem_map.1 hr; rfl
      · refine RR_intsAt _ 0 fun i x hx => ?_
        have hil : i < ss.length := by have := (List.getElem?_eq_some_iff.1 hx).1; omega
        have : (cur.toList.take (ss.length * 1))[i]? = some (.int .i64 x) := by rw [r4, List.getElem?_map, hx]; rfl
        rw [List.getElem?_take_of_lt (by omega)] at this
        unfold World.cell?
        rw [hgb', Nat.zero_add]
        simpa using this
    · obtain rfl := List.mem_singleton.1 hk
      exact ⟨fun hz => by have := hi.zlt _ hz; omega, hgl, fun i hc => by have := hi.flt i _ hc; omega⟩
    · obtain rfl := List.mem_singleton.1 hk
      exact .inl hbase
end Go.Proofs.Yteieinhgdjjdoaa
namespace Go.Proofs.Yteieinhgdjjdoaa
open Go.RowKit
set_option maxRecDepth 8000
def insS (n : Int) : List Int → List Int
  | [] => [n]
  | x :: l => if n = x then x :: l else if n < x then n :: x :: l else x :: insS n l
theorem putS_true (n : Int) : ∀ (l acc : List Int), l.foldl (putS n) (acc, true) = (acc ++ l, true)
  | [], acc => by simp
  | x :: l, acc => by
    have : putS n (acc, true) x = (acc ++ [x], true) := by unfold putS; rw [if_neg (by simp)]
    rw [List.foldl_cons, this, putS_true n l]; simp
theorem putS_false (n : Int) : ∀ (l acc : List Int), (if (l.foldl (putS n) (acc, false)).2 = true then (l.foldl (putS n) (acc, false)).1 else (l.foldl (putS n) (acc, false)).1 ++ [n]) = acc ++ insS n l
  | [], acc => by simp [insS]
  | x :: l, acc => by
    rw [List.foldl_cons]
    unfold insS
    by_cases h1 : n = x
    · have : putS n (acc, false) x = (acc ++ [x], true) := by unfold putS; rw [if_pos ⟨rfl, by omega⟩, if_pos h1]
      rw [this, putS_true, if_pos rfl, if_pos h1]; simp
    · by_cases h2 : n < x
      · have : putS n (acc, false) x = (acc ++ [n] ++ [x], true) := by unfold putS; rw [if_pos ⟨rfl, by omega⟩, if_neg h1]
        rw [this, putS_true, if_pos rfl, if_neg h1, if_pos h2]; simp
      · have : putS n (acc, false) x = (acc ++ [x], false) := by unfold putS; rw [if_neg (by simp; omega)]
        rw [this, putS_false n l, if_neg h1, if_neg h2]; simp
theorem putB_ins (l : List Int) (n : Int) : putB l n = insS n l := by
  have := putS_false n l []
  unfold putB
  rw [this]; rfl
theorem insS_mem {n m : Int} : ∀ {l : List Int}, m ∈ insS n l ↔ m = n ∨ m ∈ l
  | [] => by simp [insS]
  | x :: l => by
    unfold insS
    split
    · rename_i h; simp [h]
    · split
      · simp
      · simp only [List.mem_cons, insS_mem (l := l)]
        constructor
        · rintro (h | h | h)
          · exact .inr (.inl h)
          · exact .inl h
          · exact .inr (.inr h)
        · rintro (h | h | h)
          · exact .inr (.inl h)
          · exact .inl h
          · exact .inr (.inr h)
theorem insS_sorted {n : Int} : ∀ {l : List Int}, l.Pairwise (· < ·) → (insS n l).Pairwise (· < ·)
  | [], _ => by simp [insS]
  | x :: l, h => by
    obtain ⟨h1, h2⟩ := List.pairwise_cons.1 h
    unfold insS
    split
    · exact h
    · rename_i hne
      split
      · rename_i hlt
        refine List.pairwise_cons.2 ⟨fun y hy => ?_, h⟩
        rcases List.mem_cons.1 hy with rfl | hy
        · exact hlt
        · have := h1 y hy; omega
      · refine List.pairwise_cons.2 ⟨fun y hy => ?_, insS_sorted h2⟩
        rcases insS_mem.1 hy with rfl | hy
        · omega
        · exact h1 y hy
theorem insS_perm {n : Int} : ∀ {l : List Int}, l.Pairwise (· < ·) → (insS n l).Perm (if n ∈ l then l else n :: l)
  | [], _ => by simp [insS]
  | x :: l, h => by
    obtain ⟨h1, h2⟩ := List.pairwise_cons.1 h
    unfold insS
    by_cases e : n = x
    · rw [if_pos e, if_pos (by simp [e])]
    · rw [if_neg e]
      by_cases hl : n < x
      · rw [if_pos hl, if_neg]
        intro hm
        rcases List.mem_cons.1 hm with hm | hm
        · exact e hm
        · have := h1 n hm; omega
      · rw [if_neg hl]
        have ih := insS_perm (n := n) h2
        by_cases hm : n ∈ l
        · rw [if_pos hm] at ih
          rw [if_pos (List.mem_cons_of_mem _ hm)]
          exact ih.cons x
        · rw [if_neg hm] at ih
          rw [if_neg (fun h => by
            rcases List.mem_cons.1 h with h | h
            · exact e h
            · exact hm h)]
          exact (ih.cons x).trans (.swap n x l)
theorem setM_keys {α : Type} [DecidableEq α] (k : α) (v : Int) : ∀ kv : List (α × Int), (setM kv k v).map (·.1) = if k ∈ kv.map (·.1) then kv.map (·.1) else kv.map (·.1) ++ [k]
  | [] => by simp [setM]
  | e :: r => by
    have ih := setM_keys k v r
    unfold setM
    by_cases h : k = e.1
    · rw [if_pos h, if_pos (by simp [h])]; simp [h]
    · rw [if_neg h]
      simp only [List.map_cons, ih, List.mem_cons, h, false_or]
      split <;> simp
structure Rise (kv : List (Int × Int)) (out : List Int) : Prop where
  rise : out.Pairwise (· < ·)
  perm : out.Perm (kv.map (·.1))
theorem Rise.nodup {kv : List (Int × Int)} {out : List Int} (h : Rise kv out) : (kv.map (·.1)).Nodup := h.perm.nodup_iff.1 (h.rise.imp fun h => by omega)
theorem Rise.put {kv : List (Int × Int)} {out : List Int} (h : Rise kv out) (n v : Int) : Rise (setM kv n v) (putB out n) := by
  rw [putB_ins]
  refine ⟨insS_sorted h.rise, (insS_perm h.rise).trans ?_⟩
  rw [setM_keys]
  have hm : n ∈ out ↔ n ∈ kv.map (·.1) := h.perm.mem_iff
  by_cases hn : n ∈ out
  · rw [if_pos hn, if_pos (hm.1 hn)]; exact h.perm
  · rw [if_neg hn, if_neg (fun h' => hn (hm.2 h'))]
    exact (h.perm.cons n).trans (List.perm_append_singleton n _).symm
theorem setM_range {kv : List (Int × Int)} {n v a b : Int} (h : ∀ e ∈ kv, a ≤ e.1 ∧ e.1 ≤ b) (hn : a ≤ n ∧ n ≤ b) : ∀ e ∈ setM kv n v, a ≤ e.1 ∧ e.1 ≤ b := by
  intro e he
  have : e.1 ∈ (setM kv n v).map (·.1) := List.mem_map.2 ⟨e, he, rfl⟩
  rw [setM_keys] at this
  have key : e.1 = n ∨ e.1 ∈ kv.map (·.1) := by
    split at this
    · exact .inr this
    · rcases List.mem_append.1 this with h | h
      · exact .inr h
      · exact .inl (List.mem_singleton.1 h)
  rcases key with hk | hk
  · rw [hk]; exact hn
  · obtain ⟨e', he', e1⟩ := List.mem_map.1 hk
    rw [← e1]; exact h e' he'
theorem setM_len_le {α : Type} [DecidableEq α] (k : α) (v : Int) (kv : List (α × Int)) : (setM kv k v).length ≤ kv.length + 1 := by
  have := congrArg List.length (setM_keys k v kv)
  rw [List.length_map] at this
  rw [this]
  split <;> simp
theorem numS_range (p : Prg) (hp : SmallP p) (t a : Int) : -1 ≤ numS p t a ∧ numS p t a ≤ 3000 := by
  unfold numS
  split
  · rename_i h
    obtain ⟨h1, h2, h3, h4⟩ := h
    have := startB_le hp t.toNat
    have hl := hp.thr
    have hx : ((p.thr[t.toNat]?).getD []).length ≤ 300 := by
      cases e : p.thr[t.toNat]? with
      | none => simp
      | some l => exact hp.len l (List.mem_of_getElem? e)
    omega
  · omega
end Go.Proofs.Yteieinhgdjjdoaa
namespace Go.Proofs.Yteieinhgdjjdoaa
open Go.RowKit
set_option maxRecDepth 8000
theorem Rise.sorted {kv : List (Int × Int)} {out : List Int} (h : Rise kv out) : sortedM kv = out := by
  unfold sortedM
  rw [mergeSort_of_perm_i h.perm.symm]
  exact List.mergeSort_of_pairwise (h.rise.imp fun h => by simp; omega)
abbrev croH (p : Prg) (a : List HV) (b : Bool) (kv : List (Int × Int)) : Heap :=
  [some ⟨25, 2, [[.sl (ints p.init), .sl (thrs p.thr)]]⟩, some ⟨22, 1, [a]⟩, some ⟨4, 1, [[.v (.bool b)]]⟩, some (mapI kv), some (mapBox 3), none, none, some ⟨64, 1, []⟩]
set_option maxHeartbeats 8000000 in
theorem crossCross (p : Prg) (l : List Pck) (hp : RightP p) (hl : l.length ≤ 10000) : HFn Try.prog 11 [prgH p, .sl (pcks l)]
    (.tu [owInts ((crossF p (beginS p) [] l).getD []), .v (.bool (crossF p (beginS p) [] l).isSome)]) := by
  refine HCalls.conv (Q := fun x _ => x = .tu [owInts ((crossF p (beginS p) [] l).getD []), .v (.bool (crossF p (beginS p) [] l).isSome)] ∨ (crossF p (beginS p) [] l = none ∧ x = .tu [.v (.slice none 0 0), .v (.bool false)])) ?_ ?_
  rotate_left
  · rintro x H' (rfl | ⟨h, rfl⟩)
    · exact ⟨_, rfl, .inl rfl⟩
    · rw [h]; exact ⟨_, rfl, .inr ⟨rfl, Conv.nilTuOw _ _ _⟩⟩
  have hsm := hp.small
  refine HCalls_bodyC (fn := Try.f11) 38 [.cell 4 22, .cell 5 4] (by kernel_rfl) rfl rfl (by kernel_rfl) (HW.run 400 (by kernel_rfl) ?_)
  simp (config := { decide := true }) only [go_sem, Int.reduceToNat, Nat.reduceAdd, Nat.reduceSub, Nat.reduceMul, Nat.reduceBEq, reduceIte, reduceCtorEq]
  refine callX_nm (crossAlong p l) rfl rfl ?_
  simp (config := { decide := true }) only [go_sem, Int.reduceToNat, Nat.reduceAdd, Nat.reduceSub, Nat.reduceMul, Nat.reduceBEq, reduceIte, reduceCtorEq]
  refine HW.ghost (Ghost.hole 64 1) ?_
  simp (config := { decide := true }) only [go_sem, Int.reduceToNat, Nat.reduceAdd, Nat.reduceSub, Nat.reduceMul, Nat.reduceBEq, reduceIte, reduceCtorEq]
  refine HW.rangeFunc rfl (by decide) rfl (alongX p (beginS p) l) (croH p [.v (.slice none 0 0)] false [])
    (fun j Hi => ∃ pre s out r kv, alongX p (beginS p) l = pre ++ alongX p s r ∧ pre.length = j ∧ j ≤ l.length ∧ crossF p (beginS p) [] l = crossF p s out r ∧ Rise kv out ∧ (∀ e ∈ kv, -1000000 ≤ e.1 ∧ e.1 ≤ 1000000) ∧ kv.length ≤ j ∧ (∀ n, 0 ≤ getM kv n ∧ getM kv n ≤ j) ∧ Hi = croH p [.v (.slice none 0 0)] false kv)
    (fun c Hi => c = .ret ∧ crossF p (beginS p) [] l = none ∧ ∃ kv, Hi = croH p [.v (.slice none 0 0)] false kv)
    ?_ ?_ (fun o => along1 p l hp hl _ 5 6 (by omega) rfl rfl) ⟨[], beginS p, [], l, [], rfl, rfl, by simp, rfl, ⟨by simp, by simp⟩, by simp, by simp, fun n => ⟨Int.le_refl _, Int.le_refl _⟩, rfl⟩ ?_ ?_ ?_
  · refine ⟨rfl, fun j o hj => ?_⟩
    rcases j with _ | _ | _ | _ | _ | _ | _ | _ | j <;> simp at hj ⊢ <;> exact hj
  · intro x hx
    rcases along_rows hx with ⟨k, t, rfl⟩ | rfl <;> exact ⟨rfl, rfl⟩
  · rintro j x Hi hx - ⟨pre, s, out, r, kv, hX, hpre, hjl, hR, hri, hrg, hkl, hkv, rfl⟩
    obtain ⟨k, r', rfl, hcase⟩ := alongX_at hX hpre hx
    have hlen := along_len (p := p) l (beginS p)
    have hj1 : j + 1 ≤ l.length := by
      have := (List.getElem?_eq_some_iff.1 hx).1
      omega
    have hkv1 : ∀ n, 0 ≤ getM kv n ∧ getM kv n ≤ ((j + 1 : Nat) : Int) := fun n => ⟨(hkv n).1, by have := (hkv n).2; omega⟩
    refine HW.run 60 (by kernel_rfl) ?_
    rcases hcase with ⟨hw, rfl, hX'⟩ | ⟨hw, rfl⟩
    · have hthr := (stepW_th hw).1
      have c0 : (k.th < 0) = False := by simp only [eq_iff_iff, iff_false]; omega
      rw [crossF, if_pos hw] at hR
      generalize (stepW p s k).1 = s' at hR hX'
      generalize thAt s k.th = y at hR hX' hx
      have hbuf : (0 < (y.buf.length : Int)) = (y.buf ≠ []) := by
        cases y.buf with
        | nil => simp
        | cons a b => simp only [List.length_cons, eq_iff_iff]; constructor <;> intro <;> first | simp | omega
      simp (config := { decide := true }) only [go_sem, Int.reduceToNat, Nat.reduceAdd, Nat.reduceSub, Nat.reduceMul, Nat.reduceBEq, reduceIte, reduceCtorEq, c0]
      refine HW.run 100 (by kernel_rfl) ?_
      simp (config := { decide := true }) only [go_sem, Int.reduceToNat, Nat.reduceAdd, Nat.reduceSub, Nat.reduceMul, Nat.reduceBEq, reduceIte, reduceCtorEq, c0]
      by_cases hb : y.buf = []
      · have hbuf' : ((0 : Int) < (y.buf.length : Int)) = False := by rw [hbuf]; simp [hb]
        rw [if_neg (fun h => h.2 hb)] at hR
        simp (config := { decide := true }) only [go_sem, Int.reduceToNat, Nat.reduceAdd, Nat.reduceSub, Nat.reduceMul, Nat.reduceBEq, reduceIte, reduceCtorEq, hbuf']
        refine ⟨_, _, Ghost.trunc [] 8 (by omega) rfl ?_, rfl, pre ++ [[doneH k y]], s', out, r', kv, hX', by simp [hpre], hj1, hR, hri, hrg, by omega, hkv1, ?_⟩
        · simp (config := { decide := true }) only [go_sem, Nat.reduceBEq, reduceIte]
        · rfl
      · have hbuf' : ((0 : Int) < (y.buf.length : Int)) = True := by rw [hbuf]; simp [hb]
        cases hdr : k.dr with
        | true =>
          rw [if_neg (by simp [hdr])] at hR
          simp (config := { decide := true }) only [go_sem, Int.reduceToNat, Nat.reduceAdd, Nat.reduceSub, Nat.reduceMul, Nat.reduceBEq, reduceIte, reduceCtorEq, hbuf', hdr]
          refine ⟨_, _, Ghost.trunc [] 8 (by omega) rfl ?_, rfl, pre ++ [[doneH k y]], s', out, r', kv, hX', by simp [hpre], hj1, hR, hri, hrg, by omega, hkv1, ?_⟩
          · simp (config := { decide := true }) only [go_sem, Nat.reduceBEq, reduceIte]
          · rfl
        | false =>
          rw [if_pos ⟨hdr, hb⟩] at hR
          simp (config := { decide := true }) only [go_sem, Int.reduceToNat, Nat.reduceAdd, Nat.reduceSub, Nat.reduceMul, Nat.reduceBEq, reduceIte, reduceCtorEq, hbuf', hdr]
          refine HW.tree 1 (.light 0 (.light 1 (.light 2 (.light 3 (.light 4 (.light 5 (.light 6 (.heavy 7 [0] (.heavy 8 [] (.light 9 (.heavy 10 [] .leaf .stop)) .stop) .stop)))))))) follows (by kernel_rfl) (by kernel_rfl) ?_
          simp (config := { decide := true }) only [go_sem, Int.reduceToNat, Nat.reduceAdd, Nat.reduceSub, Nat.reduceMul, Nat.reduceBEq, reduceIte, reduceCtorEq, hbuf', hdr]
          refine callX_nm (slotsNum p k.th y.pc hsm) rfl rfl ?_
          have hnr := numS_range p hsm k.th y.pc
          generalize numS p k.th y.pc = n at hR hnr
          have hkn := hkv n
          have hw2 : IntKind.i64.wrap (getM kv n + 1) = getM kv n + 1 := w64 (by omega) (by omega)
          simp (config := { decide := true }) only [go_sem, Int.reduceToNat, Nat.reduceAdd, Nat.reduceSub, Nat.reduceMul, Nat.reduceBEq, reduceIte, reduceCtorEq, hbuf', hdr, hw2]
          refine ⟨_, _, Ghost.trunc [] 8 (by omega) rfl ?_, rfl, pre ++ [[doneH k y]], s', putB out n, r', setM kv n (getM kv n + 1), hX', by simp [hpre], hj1, hR, hri.put n _, setM_range hrg (by omega), by have := setM_len_le n (getM kv n + 1) kv; omega, fun m => ?_, ?_⟩
          · simp (config := { decide := true }) only [go_sem, Nat.reduceBEq, reduceIte]
          · rw [getM_setM']
            have := hkv m
            split <;> omega
          · rfl
    · simp (config := { decide := true }) only [go_sem, Int.reduceToNat, Nat.reduceAdd, Nat.reduceSub, Nat.reduceMul, Nat.reduceBEq, reduceIte, reduceCtorEq]
      refine HW.run 100 (by kernel_rfl) ?_
      simp (config := { decide := true }) only [go_sem, Int.reduceToNat, Nat.reduceAdd, Nat.reduceSub, Nat.reduceMul, Nat.reduceBEq, reduceIte, reduceCtorEq]
      have hR' : crossF p (beginS p) [] l = none := by rw [hR, crossF, if_neg (by simp [hw])]
      refine ⟨_, _, Ghost.trunc [] 8 (by omega) rfl ?_, rfl, hR', kv, rfl⟩
      simp (config := { decide := true }) only [go_sem, Nat.reduceBEq, reduceIte]
  · rintro Hf - ⟨pre, s, out, r, kv, hX, hpre, hjl, hR, hri, hrg, hkl, hkv, rfl⟩
    obtain rfl := alongX_end hX hpre
    simp (config := { decide := true }) only [go_sem, Int.reduceToNat, Nat.reduceAdd, Nat.reduceSub, Nat.reduceMul, Nat.reduceBEq, reduceIte, reduceCtorEq]
    refine ⟨_, mapsKeys (kv := kv) (j := 7) rfl rfl, ?_⟩
    rintro r H' ⟨rfl, rfl⟩ -
    simp (config := { decide := true }) only [go_sem, Int.reduceToNat, Nat.reduceAdd, Nat.reduceSub, Nat.reduceMul, Nat.reduceBEq, reduceIte, reduceCtorEq]
    refine ⟨_, slicesSorted (id := 3) (j := 7) (kv := kv) rfl rfl hri.nodup hrg (by omega), ?_⟩
    rintro r H' ⟨rfl, rfl⟩ -
    rw [hri.sorted]
    simp (config := { decide := true }) only [go_sem, Int.reduceToNat, Nat.reduceAdd, Nat.reduceSub, Nat.reduceMul, Nat.reduceBEq, reduceIte, reduceCtorEq]
    rw [hR]
    exact .inl rfl
  · rintro c Hf - ⟨rfl, hn, kv, rfl⟩
    unfold XQ
    simp (config := { decide := true }) only [go_sem, Int.reduceToNat, Nat.reduceAdd, Nat.reduceSub, Nat.reduceMul, Nat.reduceBEq, reduceIte, reduceCtorEq]
    exact .inr hn
end Go.Proofs.Yteieinhgdjjdoaa
namespace Go.Proofs.Yteieinhgdjjdoaa
open Go.RowKit
set_option maxRecDepth 8000
abbrev insH (p : Prg) (g : List Int) (n : Nat) (thr : List (List HV)) : Heap :=
  [some ⟨25, 2, [[.sl (ints p.init), .sl (thrs p.thr)]]⟩, some ⟨25, 2, [[.v (.slice none 0 0), .v (.slice none 0 0)]]⟩,
   some ⟨3, 1, ints p.init⟩, some ⟨25, 2, [[.hd 2 0 p.init.length, .hd 5 0 n]]⟩, some (mapI (keysB g)), some ⟨45, 1, thr⟩]
def trowO (x : List Stp) : List HV := [.ow 44 5 (stps x)]
def thrsO (l : List (List Stp)) : List (List HV) := l.map trowO
theorem thrsO_len {l : List (List Stp)} : (thrsO l).length = l.length := by simp [thrsO]
theorem thrsO_fz {l : List (List Stp)} {k : Nat} {H : Heap} : (thrsO l).map (fun r => r.map (fz k H)) = thrs l := by
  simp only [thrsO, thrs, List.map_map]
  apply List.map_congr_left
  intro x _
  cases k <;> simp only [Function.comp, trowO, trow, List.map_cons, List.map_nil, fz, fzo, stps_fzoR]
theorem thrsO_nmR {m : Nat} : ∀ {l : List (List Stp)}, nmR m (thrsO l) = true
  | [] => rfl
  | x :: l => by
    show nmR m (trowO x :: thrsO l) = true
    simp only [nmR, trowO, nmL, nm, thrsO_nmR, Bool.and_self]
theorem thrsO_rowsLen {l : List (List Stp)} : RowsLen (thrsO l) 1 = True := by
  simp only [RowsLen, thrsO, List.mem_map, eq_iff_iff, iff_true]
  rintro r ⟨a, _, rfl⟩; rfl
theorem thrsO_snoc {l : List (List Stp)} {x : List Stp} : thrsO l ++ [trowO x] = thrsO (l ++ [x]) := by simp [thrsO]
attribute [go_sem] thrsO_fz thrsO_nmR thrsO_rowsLen thrsO_len
set_option maxHeartbeats 8000000 in
theorem slotsInsert (p : Prg) (g : List Int) (hp : RightP p) (hg : g.length ≤ 100000) : HFn Try.prog 40 [prgH p, .sl (ints g)] (prgH (insP p g)) := by
  have hsm := hp.small
  have hl := hsm.thr
  have hi := hsm.init
  refine HFn_bodyF (fn := Try.f40) 3 88 [.cell 4 25] (by kernel_rfl) rfl rfl (by kernel_rfl) (HW.run 400 (by kernel_rfl) ?_)
  simp (config := { decide := true }) only [go_sem, Int.reduceToNat, Nat.reduceAdd, Nat.reduceSub, Nat.reduceMul, Nat.reduceBEq, reduceIte, reduceCtorEq]
  refine callX_nm (cloneInts p.init (by omega)) rfl rfl ?_
  simp (config := { decide := true }) only [go_sem, Int.reduceToNat, Nat.reduceAdd, Nat.reduceSub, Nat.reduceMul, Nat.reduceBEq, reduceIte, reduceCtorEq]
  refine callX_nm (slotsKeys g hg) rfl rfl ?_
  simp (config := { decide := true }) only [go_sem, Int.reduceToNat, Nat.reduceAdd, Nat.reduceSub, Nat.reduceMul, Nat.reduceBEq, reduceIte, reduceCtorEq]
  refine HW.loopG (fun k T H => ∃ (i : Nat), k = p.thr.length - i ∧ i ≤ p.thr.length ∧
    T 5 = .pt 3 1 0 0 ∧ T 4 = .pt 1 1 0 0 ∧ T 6 = .mp 4 ∧ T 7 = .v (.int .i64 (startB p.thr i)) ∧ T 23 = .sl (thrs p.thr) ∧ T 24 = .v (.int .i64 p.thr.length) ∧ T 25 = .v (.int .i64 i) ∧
    H = insH p g i (thrsO (insF g p.thr i))) p.thr.length
    ⟨_, _, (Ghost.cell 3 0 1 (.ow 45 1 []) rfl rfl rfl rfl (Conv.nilOw _ _) (by simp)).trans (Ghost.open 3 0 1), 0, rfl, by omega, rfl, rfl, rfl, rfl, rfl, rfl, rfl, ?_⟩ ?_
  · rfl
  rintro k T H ⟨i, rfl, hi, h5, h4, h6, h7, h23, h24, h25, rfl⟩
  refine HW.run 200 (by kernel_rfl) ?_
  have hsb := startB_le hsm i
  by_cases hlt : i < p.thr.length
  · have hlt' : ((i : Int) < (p.thr.length : Int)) = True := by rw [int_lt]; simp [hlt]
    have hx : p.thr[i]? = some p.thr[i] := List.getElem?_eq_getElem hlt
    have hxl := hsm.len _ (List.getElem_mem hlt)
    have hst : startB p.thr (i + 1) = startB p.thr i + (p.thr[i]).length := by show startB p.thr i + _ = _; rw [hx]; rfl
    have hRx := fun a x h => hp.x i _ hx a x h
    have hF : insF g p.thr (i + 1) = insF g p.thr i ++ [insT g (startB p.thr i) p.thr[i]] := by rw [insF, hx]; rfl
    generalize p.thr[i] = l at hx hxl hst hRx hF
    generalize startB p.thr i = n at hsb hst h7 hF
    simp (config := { decide := true }) only [go_sem, Int.reduceToNat, Nat.reduceAdd, Nat.reduceSub, Nat.reduceMul, Nat.reduceBEq, reduceIte, reduceCtorEq, h5, h4, h6, h7, h23, h24, h25, hlt', hx]
    have hn : n ≤ 3000 := by omega
    refine HW.loopG (fun k T H => ∃ (j : Nat), k = l.length - j ∧ j ≤ l.length ∧
      T 5 = .pt 3 1 0 0 ∧ T 4 = .pt 1 1 0 0 ∧ T 6 = .mp 4 ∧ T 7 = .v (.int .i64 ((n + j : Nat) : Int)) ∧ T 23 = .sl (thrs p.thr) ∧ T 24 = .v (.int .i64 p.thr.length) ∧ T 25 = .v (.int .i64 i) ∧
      T 10 = .hd 6 0 (insR g n (l.take j)).length ∧ T 11 = .hd 7 0 (begL g n j).length ∧ T 29 = .sl (stps l) ∧ T 30 = .v (.int .i64 l.length) ∧ T 31 = .v (.int .i64 j) ∧
      H = insH p g i (thrsO (insF g p.thr i)) ++ [some ⟨44, 5, stps (insR g n (l.take j))⟩, some ⟨3, 1, ints (begL g n j)⟩]) l.length
      ⟨_, _, (Ghost.nil 10 44 5 (by simp (config := { decide := true }) only [go_sem, Nat.reduceBEq, reduceIte])).trans (Ghost.nil 11 3 1 (by simp (config := { decide := true }) only [go_sem, Nat.reduceBEq, reduceIte])), 0, rfl, by omega, ?_, ?_, ?_, ?_, ?_, ?_, ?_, ?_, ?_, ?_, ?_, ?_, ?_⟩ ?_
    iterate 7 simp (config := { decide := true }) only [go_sem, Nat.reduceBEq, reduceIte, h5, h4, h6, h7, h23, h24, h25, Nat.add_zero]
    iterate 2 (simp (config := { decide := true }) only [go_sem, Nat.reduceBEq, reduceIte]; rfl)
    iterate 2 simp (config := { decide := true }) only [go_sem, Nat.reduceBEq, reduceIte]
    · simp (config := { decide := true }) only [go_sem, Nat.reduceBEq, reduceIte]; rfl
    · rfl
    clear h5 h4 h6 h7 h23 h24 h25 T
    rintro k T H ⟨j, rfl, hj, h5, h4, h6, h7, h23, h24, h25, h10, h11, h29, h30, h31, rfl⟩
    refine HW.run 200 (by kernel_rfl) ?_
    have hlr := insR_len g n l j hj
    have hcl := countB_le g n j
    by_cases hjl : j < l.length
    · have hj' : ((j : Int) < (l.length : Int)) = True := by rw [int_lt]; simp [hjl]
      have hy : l[j]? = some l[j] := List.getElem?_eq_getElem hjl
      have htk : l.take (j + 1) = l.take j ++ [l[j]] := by rw [List.take_add_one, hy]; rfl
      have hR2 : insR g n (l.take (j + 1)) = insR g n (l.take j) ++ ((if hasB g ((n + j : Nat) : Int) = true then [fnc] else []) ++ [l[j]]) := by
        rw [htk, insR_snoc, List.length_take, Nat.min_eq_left (by omega)]
      have hb2 := begL_snoc g n j
      rw [← hlr] at hb2
      generalize l[j] = y at hy hR2
      have hpos := getM_keysB_pos g ((n + j : Nat) : Int)
      have hN : n + (j + 1) = (n + j) + 1 := by omega
      generalize insR g n (l.take j) = R at h10 hlr hR2 hb2 ⊢
      have hbl := begL_len (g := g) (a := n) (j := j)
      generalize begL g n j = Bg at h11 hb2 hbl ⊢
      generalize hm : n + j = m at h7 hR2 hpos
      have hmle : m ≤ 4000 := by omega
      have hN2 : ((n + (j + 1) : Nat) : Int) = (m : Int) + 1 := by omega
      by_cases hin : hasB g (m : Int) = true
      · rw [if_pos hin] at hR2
        have hpos' : ((0 : Int) < getM (keysB g) (m : Int)) = True := by rw [hpos]; simpa [hasB] using hin
        simp (config := { decide := true }) only [go_sem, Int.reduceToNat, Nat.reduceAdd, Nat.reduceSub, Nat.reduceMul, Nat.reduceBEq, reduceIte, reduceCtorEq, h5, h4, h6, h7, h23, h24, h25, h10, h11, h29, h30, h31, hj', hy, hpos']
        repeat (with_reducible refine And.intro ?_ ?_; · (with_reducible and_intros) <;> omega)
        have hR3 : R.length + 1 + 1 = (insR g n (l.take (j + 1))).length := by rw [hR2]; simp
        have hB3 : Bg.length + 1 = (begL g n (j + 1)).length := by rw [hb2]; simp
        refine GQ.step (Ghost.trunc [5, 4, 6, 7, 23, 24, 25, 10, 11, 29, 30, 31] 8 (by omega) ?_ ?_) (GQ.done ⟨l.length - (j + 1), by omega, j + 1, rfl, by omega, ?_, ?_, ?_, ?_, ?_, ?_, ?_, ?_, ?_, ?_, ?_, ?_, ?_⟩)
        · simp (config := { decide := true }) only [go_sem, Nat.reduceBEq, reduceIte, h5, h4, h6, h7, h23, h24, h25, h29, h30]
        · simp (config := { decide := true }) only [go_sem, Nat.reduceBEq, reduceIte]
        iterate 3 simp (config := { decide := true }) only [go_sem, Nat.reduceBEq, reduceIte, h5, h4, h6]
        · simp (config := { decide := true }) only [go_sem, Nat.reduceBEq, reduceIte]; rw [w64 (by omega) (by omega), ← hN2]
        iterate 3 simp (config := { decide := true }) only [go_sem, Nat.reduceBEq, reduceIte, h23, h24, h25]
        iterate 2 simp (config := { decide := true }) only [go_sem, Nat.reduceBEq, reduceIte, hR3, hB3]
        iterate 2 simp (config := { decide := true }) only [go_sem, Nat.reduceBEq, reduceIte, h29, h30]
        · simp (config := { decide := true }) only [go_sem, Nat.reduceBEq, reduceIte]; rw [w64 (by omega) (by omega)]; rfl
        · rw [hR2, hb2]
          simp (config := { decide := true }) only [go_sem, Int.reduceToNat, Nat.reduceAdd, Nat.reduceSub, Nat.reduceMul, Nat.reduceBEq, reduceIte, reduceCtorEq]
          simp [stps, fnc, strow]
      · rw [if_neg hin] at hR2
        have hpos' : ((0 : Int) < getM (keysB g) (m : Int)) = False := by rw [hpos]; simpa [hasB] using hin
        simp (config := { decide := true }) only [go_sem, Int.reduceToNat, Nat.reduceAdd, Nat.reduceSub, Nat.reduceMul, Nat.reduceBEq, reduceIte, reduceCtorEq, h5, h4, h6, h7, h23, h24, h25, h10, h11, h29, h30, h31, hj', hy, hpos']
        repeat (with_reducible refine And.intro ?_ ?_; · (with_reducible and_intros) <;> omega)
        have hR3 : R.length + 1 = (insR g n (l.take (j + 1))).length := by rw [hR2]; simp
        have hB3 : Bg.length + 1 = (begL g n (j + 1)).length := by rw [hb2]; simp
        refine GQ.step (Ghost.trunc [5, 4, 6, 7, 23, 24, 25, 10, 11, 29, 30, 31] 8 (by omega) ?_ ?_) (GQ.done ⟨l.length - (j + 1), by omega, j + 1, rfl, by omega, ?_, ?_, ?_, ?_, ?_, ?_, ?_, ?_, ?_, ?_, ?_, ?_, ?_⟩)
        · simp (config := { decide := true }) only [go_sem, Nat.reduceBEq, reduceIte, h5, h4, h6, h7, h23, h24, h25, h29, h30]
        · simp (config := { decide := true }) only [go_sem, Nat.reduceBEq, reduceIte]
        iterate 3 simp (config := { decide := true }) only [go_sem, Nat.reduceBEq, reduceIte, h5, h4, h6]
        · simp (config := { decide := true }) only [go_sem, Nat.reduceBEq, reduceIte]; rw [w64 (by omega) (by omega), ← hN2]
        iterate 3 simp (config := { decide := true }) only [go_sem, Nat.reduceBEq, reduceIte, h23, h24, h25]
        iterate 2 simp (config := { decide := true }) only [go_sem, Nat.reduceBEq, reduceIte, hR3, hB3]
        iterate 2 simp (config := { decide := true }) only [go_sem, Nat.reduceBEq, reduceIte, h29, h30]
        · simp (config := { decide := true }) only [go_sem, Nat.reduceBEq, reduceIte]; rw [w64 (by omega) (by omega)]; rfl
        · rw [hR2, hb2]
          simp (config := { decide := true }) only [go_sem, Int.reduceToNat, Nat.reduceAdd, Nat.reduceSub, Nat.reduceMul, Nat.reduceBEq, reduceIte, reduceCtorEq]
    · have hj' : ((j : Int) < (l.length : Int)) = False := by rw [int_lt]; simp [hjl]
      simp (config := { decide := true }) only [go_sem, Int.reduceToNat, Nat.reduceAdd, Nat.reduceSub, Nat.reduceMul, Nat.reduceBEq, reduceIte, reduceCtorEq, h5, h4, h6, h7, h23, h24, h25, h10, h11, h29, h30, h31, hj']
      have hbl := begL_len (g := g) (a := n) (j := j)
      repeat (with_reducible refine And.intro ?_ ?_; · (with_reducible and_intros) <;> omega)
      obtain rfl : j = l.length := by omega
      rw [List.take_length] at hlr h10
      have hbs : begL g n l.length ++ [((insR g n l).length : Int)] = begL g n (l.length + 1) := by rw [begL_snoc, hlr]
      rw [List.take_length, hbs]
      have hbl1 := begL_len (g := g) (a := n) (j := l.length + 1)
      rw [hbl] at h11
      have hRm : ∀ (k : Nat) y, (insR g n l)[k]? = some y → 8 ≤ y.op → 0 ≤ y.to ∧ y.to ≤ l.length := fun k y hk h8 => by
        rcases insR_mem (List.mem_of_getElem? hk) with rfl | hm
        · simp [fnc] at h8
        · obtain ⟨q, hq⟩ := List.getElem?_of_mem hm
          have := (hRx q y hq).to.1 h8
          omega
      have hBm : ∀ q : Nat, q ≤ l.length → (begL g n (l.length + 1))[q]? = some ((q + countB g n q : Nat) : Int) := fun q hq => begL_get (by omega)
      rw [show insT g n l = (insR g n l).map (insStp g n) from rfl] at hF
      generalize insR g n l = R at hlr h10 hRm hF ⊢
      generalize begL g n (l.length + 1) = B at hbl1 hBm ⊢
      refine HW.loopG (fun k' T H => ∃ (k : Nat), k' = R.length - k ∧ k ≤ R.length ∧
        T 5 = .pt 3 1 0 0 ∧ T 4 = .pt 1 1 0 0 ∧ T 6 = .mp 4 ∧ T 7 = .v (.int .i64 ((n + l.length : Nat) : Int)) ∧ T 23 = .sl (thrs p.thr) ∧ T 24 = .v (.int .i64 p.thr.length) ∧ T 25 = .v (.int .i64 i) ∧
        T 10 = .hd 6 0 R.length ∧ T 11 = .hd 7 0 (l.length + 1) ∧ T 60 = .hd 6 0 R.length ∧ T 61 = .v (.int .i64 R.length) ∧ T 62 = .v (.int .i64 k) ∧
        H = insH p g i (thrsO (insF g p.thr i)) ++ [some ⟨44, 5, stps ((R.take k).map (insStp g n) ++ R.drop k)⟩, some ⟨3, 1, ints B⟩]) R.length
        ⟨_, _, Ghost.trunc [5, 4, 6, 7, 23, 24, 25, 10, 11, 60, 61, 62] 8 (by omega) ?_ ?_, 0, rfl, by omega, ?_, ?_, ?_, ?_, ?_, ?_, ?_, ?_, ?_, ?_, ?_, ?_, ?_⟩ ?_
      · simp (config := { decide := true }) only [go_sem, Nat.reduceBEq, reduceIte, h5, h4, h6, h7, h23, h24, h25, h10, h11]
      · simp (config := { decide := true }) only [go_sem, Nat.reduceBEq, reduceIte]
      iterate 8 simp (config := { decide := true }) only [go_sem, Nat.reduceBEq, reduceIte, h5, h4, h6, h7, h23, h24, h25, h10]
      · simp (config := { decide := true }) only [go_sem, Nat.reduceBEq, reduceIte, h11, hbl]
      iterate 2 simp (config := { decide := true }) only [go_sem, Nat.reduceBEq, reduceIte, h10]
      · simp (config := { decide := true }) only [go_sem, Nat.reduceBEq, reduceIte]; rfl
      · rfl
      clear h5 h4 h6 h7 h23 h24 h25 h10 h11 h29 h30 h31 T
      rintro k' T H ⟨k, rfl, hk, h5, h4, h6, h7, h23, h24, h25, h10, h11, h60, h61, h62, rfl⟩
      refine HW.run 200 (by kernel_rfl) ?_
      by_cases hkl : k < R.length
      · have hk' : ((k : Int) < (R.length : Int)) = True := by rw [int_lt]; simp [hkl]
        have hy : R[k]? = some R[k] := List.getElem?_eq_getElem hkl
        have hd : R.drop k = R[k] :: R.drop (k + 1) := List.drop_eq_getElem_cons hkl
        have htk : R.take (k + 1) = R.take k ++ [R[k]] := by rw [List.take_add_one, hy]; rfl
        rw [hd]
        have hlk : (R.take k).length = k := by rw [List.length_take]; omega
        have hyt := hRm k _ hy
        generalize R[k] = y at hy hd htk hyt ⊢
        have hA : ((R.take k).map (insStp g n)).length = k := by simp; omega
        have hL : ((R.take k).map (insStp g n) ++ y :: R.drop (k + 1)).length = R.length := by simp; omega
        have hrow : ((R.take k).map (insStp g n) ++ y :: R.drop (k + 1))[k]? = some y := row_mid hA
        have hset : ∀ to' : Int, (stps ((R.take k).map (insStp g n) ++ y :: R.drop (k + 1))).set k [.v (.int .i64 y.op), .v (.int .i64 y.reg), .v (.int .i64 y.loc), .v (.int .i64 y.n), .v (.int .i64 to')] = stps ((R.take k).map (insStp g n) ++ { y with to := to' } :: R.drop (k + 1)) := fun to' => by
          rw [stps, stps, List.map_append, List.map_cons, set_mid (by simp; omega), List.map_append, List.map_cons]; rfl
        generalize hLL : (R.take k).map (insStp g n) ++ y :: R.drop (k + 1) = LL at hL hrow hset ⊢
        by_cases h8 : 8 ≤ y.op
        · obtain ⟨t0, t1⟩ := hyt h8
          have h8' : ((8 : Int) ≤ y.op) = True := by simp [h8]
          have t0' : (0 ≤ y.to) = True := by simp [t0]
          have t1' : (y.to < ((l.length + 1 : Nat) : Int)) = True := by simp only [eq_iff_iff, iff_true]; omega
          have hBq := hBm y.to.toNat (by omega)
          simp (config := { decide := true }) only [go_sem, Int.reduceToNat, Nat.reduceAdd, Nat.reduceSub, Nat.reduceMul, Nat.reduceBEq, reduceIte, reduceCtorEq, h5, h4, h6, h7, h23, h24, h25, h10, h11, h60, h61, h62, hk', hL, hrow, h8', hbl1, t0', t1', hBq, hset]
          refine ⟨by rw [Bool.and_eq_true]; exact ⟨beq_self_eq_true _, by simp only [bne_iff_ne]; omega⟩, ?_⟩
          refine GQ.step (Ghost.trunc [5, 4, 6, 7, 23, 24, 25, 10, 11, 60, 61, 62] 8 (by omega) ?_ ?_) (GQ.done ⟨R.length - (k + 1), by omega, k + 1, rfl, by omega, ?_, ?_, ?_, ?_, ?_, ?_, ?_, ?_, ?_, ?_, ?_, ?_, ?_⟩)
          · simp (config := { decide := true }) only [go_sem, Nat.reduceBEq, reduceIte, h5, h4, h6, h7, h23, h24, h25, h10, h11, h60, h61]
          · simp (config := { decide := true }) only [go_sem, Nat.reduceBEq, reduceIte, hset, List.set_cons_succ, List.set_cons_zero]
          iterate 11 simp (config := { decide := true }) only [go_sem, Nat.reduceBEq, reduceIte, h5, h4, h6, h7, h23, h24, h25, h10, h11, h60, h61]
          · simp (config := { decide := true }) only [go_sem, Nat.reduceBEq, reduceIte]; rw [w64 (by omega) (by omega)]; rfl
          · have e : insStp g n y = ⟨y.op, y.reg, y.loc, y.n, ((y.to.toNat + countB g n y.to.toNat : Nat) : Int)⟩ := by
              unfold insStp; rw [if_pos h8]; congr 1; omega
            rw [htk, List.map_append, List.map_cons, List.map_nil, e, List.append_assoc]
            simp (config := { decide := true }) only [go_sem, Int.reduceToNat, Nat.reduceAdd, Nat.reduceSub, Nat.reduceMul, Nat.reduceBEq, reduceIte, reduceCtorEq, hset]
        · have h8' : ((8 : Int) ≤ y.op) = False := by simp [h8]
          simp (config := { decide := true }) only [go_sem, Int.reduceToNat, Nat.reduceAdd, Nat.reduceSub, Nat.reduceMul, Nat.reduceBEq, reduceIte, reduceCtorEq, h5, h4, h6, h7, h23, h24, h25, h10, h11, h60, h61, h62, hk', hL, hrow, h8', hbl1, hset]
          refine GQ.step (Ghost.trunc [5, 4, 6, 7, 23, 24, 25, 10, 11, 60, 61, 62] 8 (by omega) ?_ ?_) (GQ.done ⟨R.length - (k + 1), by omega, k + 1, rfl, by omega, ?_, ?_, ?_, ?_, ?_, ?_, ?_, ?_, ?_, ?_, ?_, ?_, ?_⟩)
          · simp (config := { decide := true }) only [go_sem, Nat.reduceBEq, reduceIte, h5, h4, h6, h7, h23, h24, h25, h10, h11, h60, h61]
          · simp (config := { decide := true }) only [go_sem, Nat.reduceBEq, reduceIte, hset, List.set_cons_succ, List.set_cons_zero]
          iterate 11 simp (config := { decide := true }) only [go_sem, Nat.reduceBEq, reduceIte, h5, h4, h6, h7, h23, h24, h25, h10, h11, h60, h61]
          · simp (config := { decide := true }) only [go_sem, Nat.reduceBEq, reduceIte]; rw [w64 (by omega) (by omega)]; rfl
          · have e : insStp g n y = y := by
              unfold insStp; rw [if_neg h8]
            rw [htk, List.map_append, List.map_cons, List.map_nil, e, List.append_assoc]
            simp (config := { decide := true }) only [go_sem, Int.reduceToNat, Nat.reduceAdd, Nat.reduceSub, Nat.reduceMul, Nat.reduceBEq, reduceIte, reduceCtorEq, ← hLL]
      · have hk' : ((k : Int) < (R.length : Int)) = False := by rw [int_lt]; simp [hkl]
        have htk : R.take k = R := List.take_of_length_le (by omega)
        have hdr : R.drop k = [] := List.drop_eq_nil_of_le (by omega)
        rw [htk, hdr, List.append_nil]
        simp (config := { decide := true }) only [go_sem, Int.reduceToNat, Nat.reduceAdd, Nat.reduceSub, Nat.reduceMul, Nat.reduceBEq, reduceIte, reduceCtorEq, h5, h4, h6, h7, h23, h24, h25, h10, h11, h60, h61, h62, hk', List.length_map]
        have hil : i = (insF g p.thr i).length := (insF_len g p.thr i).symm
        refine ⟨⟨hil, by omega, by omega⟩, ?_⟩
        have hTl : (thrsO (insF g p.thr i)).length = i := by rw [thrsO_len, insF_len]
        have hrl : ∀ X, (thrsO (insF g p.thr i) ++ [X])[i]? = some X := fun X => row_last hTl
        have hsl : ∀ X Y, (thrsO (insF g p.thr i) ++ [X]).set i Y = thrsO (insF g p.thr i) ++ [Y] := fun X Y => set_last hTl
        refine GQ.step (Ghost.absorb 5 i 0) ?_
        simp (config := { decide := true }) only [go_sem, Int.reduceToNat, Nat.reduceAdd, Nat.reduceSub, Nat.reduceMul, Nat.reduceBEq, reduceIte, reduceCtorEq, hrl, hsl, absorb_eq, onOb_some, List.length_map]
        refine GQ.step (Ghost.trunc [5, 4, 6, 7, 23, 24, 25] 6 (by omega) ?_ ?_) (GQ.done ⟨p.thr.length - (i + 1), by omega, i + 1, rfl, by omega, ?_, ?_, ?_, ?_, ?_, ?_, ?_, ?_⟩)
        · simp (config := { decide := true }) only [go_sem, Nat.reduceBEq, reduceIte, h5, h4, h6, h7, h23, h24]
        · simp (config := { decide := true }) only [go_sem, Nat.reduceBEq, reduceIte, hsl, nmR_append, List.set_cons_succ, List.set_cons_zero]
        iterate 6 simp (config := { decide := true }) only [go_sem, Nat.reduceBEq, reduceIte, h5, h4, h6, h7, h23, h24, hst]
        · simp (config := { decide := true }) only [go_sem, Nat.reduceBEq, reduceIte]; rw [w64 (by omega) (by omega)]; rfl
        · rw [hF, ← thrsO_snoc]
          simp (config := { decide := true }) only [go_sem, Int.reduceToNat, Nat.reduceAdd, Nat.reduceSub, Nat.reduceMul, Nat.reduceBEq, reduceIte, reduceCtorEq, hsl]
          rfl
  · have hlt' : ((i : Int) < (p.thr.length : Int)) = False := by rw [int_lt]; simp [hlt]
    have e : i = p.thr.length := by omega
    have e2 : (i = (insF g p.thr i).length) = True := by rw [insF_len]; simp
    simp (config := { decide := true }) only [go_sem, Int.reduceToNat, Nat.reduceAdd, Nat.reduceSub, Nat.reduceMul, Nat.reduceBEq, reduceIte, reduceCtorEq, h5, h4, h6, h7, h23, h24, h25, hlt', e2]
    rw [e]; rfl
end Go.Proofs.Yteieinhgdjjdoaa
namespace Go.Proofs.Yteieinhgdjjdoaa
open Go.RowKit
set_option maxRecDepth 8000
abbrev lowH (p : Prg) (m : List ((Int × Int) × Int)) (a : List HV) (b : Bool) (n : Nat) (out : List Pck) : Heap :=
  [some ⟨25, 2, [[.sl (ints p.init), .sl (thrs p.thr)]]⟩, some ⟨26, 1, [a]⟩, some ⟨4, 1, [[.v (.bool b)]]⟩, some (mapP m), some ⟨79, 1, [[.mp 3]]⟩,
   some ⟨26, 1, [[.hd 8 0 n]]⟩, none, none, some ⟨62, 2, pcks out⟩]
theorem begin_ths {p : Prg} : (beginS p).ths.length = p.thr.length := by simp [beginS]
set_option maxHeartbeats 8000000 in
theorem crossLower (p : Prg) (g : List Int) (l : List Pck) (hp : RightP p) (h4 : Forty p) (hg : g.length ≤ 10000) (hl : l.length ≤ 10000) : HFn Try.prog 13 [prgH p, .sl (ints g), .sl (pcks l)]
    (.tu [owPcks ((lowerF p (insP p g) g (beginS (insP p g)) [] l).getD []), .v (.bool (lowerF p (insP p g) g (beginS (insP p g)) [] l).isSome)]) := by
  have hq := insP_right g hp h4
  have hqs : (beginS (insP p g)).ths.length = p.thr.length := by rw [begin_ths]; exact insF_len g p.thr _
  have hsm := hp.small
  have hbr := begin_right (p := insP p g)
  have hM := getM_places p g
  have hM0 := getM_places_le p g
  have hins := slotsInsert p g hp (by omega)
  generalize insP p g = q at hq hqs hbr hins ⊢
  refine HCalls.conv (Q := fun x _ => x = .tu [owPcks ((lowerF p q g (beginS q) [] l).getD []), .v (.bool (lowerF p q g (beginS q) [] l).isSome)] ∨ (lowerF p q g (beginS q) [] l = none ∧ x = .tu [.v (.slice none 0 0), .v (.bool false)])) ?_ ?_
  rotate_left
  · rintro x H' (rfl | ⟨h, rfl⟩)
    · exact ⟨_, rfl, .inl rfl⟩
    · rw [h]; exact ⟨_, rfl, .inr ⟨rfl, Conv.nilTuOw _ _ _⟩⟩
  have hput := crossPut p g hsm (by omega)
  generalize foldC [] (placesF g p.thr 0 0) = Mf at hput hM hM0
  refine HCalls_bodyC (fn := Try.f13) 44 [.cell 6 26, .cell 7 4] (by kernel_rfl) rfl rfl (by kernel_rfl) (HW.run 400 (by kernel_rfl) ?_)
  simp (config := { decide := true }) only [go_sem, Int.reduceToNat, Nat.reduceAdd, Nat.reduceSub, Nat.reduceMul, Nat.reduceBEq, reduceIte, reduceCtorEq]
  refine callX_nm (hput) rfl rfl ?_
  simp (config := { decide := true }) only [go_sem, Int.reduceToNat, Nat.reduceAdd, Nat.reduceSub, Nat.reduceMul, Nat.reduceBEq, reduceIte, reduceCtorEq]
  refine callX_nm (hins) rfl rfl ?_
  simp (config := { decide := true }) only [go_sem, Int.reduceToNat, Nat.reduceAdd, Nat.reduceSub, Nat.reduceMul, Nat.reduceBEq, reduceIte, reduceCtorEq]
  refine callX_nm (crossAlong q l) rfl rfl ?_
  simp (config := { decide := true }) only [go_sem, Int.reduceToNat, Nat.reduceAdd, Nat.reduceSub, Nat.reduceMul, Nat.reduceBEq, reduceIte, reduceCtorEq]
  refine HW.ghost ((Ghost.cell 5 0 0 (.ow 62 2 []) rfl rfl rfl rfl (Conv.nilOw _ _) (by simp)).trans (Ghost.open 5 0 0)) ?_
  simp (config := { decide := true }) only [go_sem, Int.reduceToNat, Nat.reduceAdd, Nat.reduceSub, Nat.reduceMul, Nat.reduceBEq, reduceIte, reduceCtorEq]
  refine HW.rangeFunc rfl (by decide) rfl (alongX q (beginS q) l) (lowH p Mf [.v (.slice none 0 0)] false 0 [])
    (fun j Hi => ∃ pre s out r, alongX q (beginS q) l = pre ++ alongX q s r ∧ pre.length = j ∧ out.length ≤ j ∧ j ≤ l.length ∧ s.ths.length = p.thr.length ∧ RightS q s ∧ lowerF p q g (beginS q) [] l = lowerF p q g s out r ∧ Hi = lowH p Mf [.v (.slice none 0 0)] false out.length out)
    (fun c Hi => c = .ret ∧ lowerF p q g (beginS q) [] l = none ∧ ∃ n out, Hi = lowH p Mf [.v (.slice none 0 0)] false n out)
    ?_ ?_ (fun o => along1 q l hq hl _ 6 7 (by omega) rfl rfl) ⟨[], beginS q, [], l, rfl, rfl, by simp, by simp, hqs, hbr, rfl, rfl⟩ ?_ ?_ ?_
  · refine ⟨rfl, fun j o hj => ?_⟩
    rcases j with _ | _ | _ | _ | _ | _ | _ | _ | _ | j <;> simp at hj ⊢ <;> exact hj
  · intro x hx
    rcases along_rows hx with ⟨k, t, rfl⟩ | rfl <;> exact ⟨rfl, rfl⟩
  · rintro j x Hi hx - ⟨pre, s, out, r, hX, hpre, hout, hjl, hths, hs, hR, rfl⟩
    obtain ⟨k, r', rfl, hcase⟩ := alongX_at hX hpre hx
    have hlen := along_len (p := q) l (beginS q)
    have hj1 : j + 1 ≤ l.length := by
      have := (List.getElem?_eq_some_iff.1 hx).1
      omega
    refine HW.run 60 (by kernel_rfl) ?_
    rcases hcase with ⟨hw, rfl, hX'⟩ | ⟨hw, rfl⟩
    · have hthr := stepW_th hw
      have c0 : (k.th < 0) = False := by simp only [eq_iff_iff, iff_false]; omega
      rw [lowerF, if_pos hw] at hR
      have hs' := stepW_right (k := k) hq hs
      have hths' : (stepW q s k).1.ths.length = p.thr.length := by rw [hs'.ths, ← hs.ths, hths]
      generalize (stepW q s k).1 = s' at hR hX' hs' hths'
      generalize thAt s k.th = y at hR hX' hx
      obtain ⟨t, ht⟩ : ∃ t : Nat, k.th = t := ⟨k.th.toNat, by omega⟩
      have hMt := hM t y.pc (by omega)
      have hM0t := hM0 ((t : Int), y.pc)
      rw [ht, Int.toNat_natCast] at hR
      simp (config := { decide := true }) only [go_sem, Int.reduceToNat, Nat.reduceAdd, Nat.reduceSub, Nat.reduceMul, Nat.reduceBEq, reduceIte, reduceCtorEq, c0]
      refine HW.run 100 (by kernel_rfl) ?_
      simp (config := { decide := true }) only [go_sem, Int.reduceToNat, Nat.reduceAdd, Nat.reduceSub, Nat.reduceMul, Nat.reduceBEq, reduceIte, reduceCtorEq, c0]
      cases hdr : k.dr with
      | true =>
        rw [if_pos (.inl hdr)] at hR
        simp (config := { decide := true }) only [go_sem, Int.reduceToNat, Nat.reduceAdd, Nat.reduceSub, Nat.reduceMul, Nat.reduceBEq, reduceIte, reduceCtorEq, hdr]
        repeat (with_reducible refine And.intro ?_ ?_; · (with_reducible and_intros) <;> omega)
        refine ⟨_, _, Ghost.trunc [] 9 (by omega) rfl ?_, rfl, pre ++ [[doneH k y]], s', out ++ [k], r', hX', by simp [hpre], by simp; omega, hj1, hths', hs', hR, ?_⟩
        · simp (config := { decide := true }) only [go_sem, Nat.reduceBEq, reduceIte]
        · simp [pcks, prow, hdr]
      | false =>
        by_cases hin : fenceB p g t y.pc = false
        · have hm : (getM Mf ((t : Int), y.pc) = 0) = True := by rw [hMt]; simp [hin]
          rw [if_pos (.inr hin)] at hR
          simp (config := { decide := true }) only [go_sem, Int.reduceToNat, Nat.reduceAdd, Nat.reduceSub, Nat.reduceMul, Nat.reduceBEq, reduceIte, reduceCtorEq, hdr, ht, hm]
          repeat (with_reducible refine And.intro ?_ ?_; · (with_reducible and_intros) <;> omega)
          refine ⟨_, _, Ghost.trunc [] 9 (by omega) rfl ?_, rfl, pre ++ [[doneH k y]], s', out ++ [k], r', hX', by simp [hpre], by simp; omega, hj1, hths', hs', hR, ?_⟩
          · simp (config := { decide := true }) only [go_sem, Nat.reduceBEq, reduceIte]
          · simp [pcks, prow, hdr, ht]
        · have hm : (getM Mf ((t : Int), y.pc) = 0) = False := by rw [hMt]; simp [hin]
          rw [if_neg (by simp [hdr, hin])] at hR
          simp (config := { decide := true }) only [go_sem, Int.reduceToNat, Nat.reduceAdd, Nat.reduceSub, Nat.reduceMul, Nat.reduceBEq, reduceIte, reduceCtorEq, hdr, ht, hm]
          refine ⟨_, _, Ghost.trunc [] 9 (by omega) rfl ?_, rfl, pre ++ [[doneH k y]], s', out, r', hX', by simp [hpre], by omega, hj1, hths', hs', hR, ?_⟩
          · simp (config := { decide := true }) only [go_sem, Nat.reduceBEq, reduceIte]
          · rfl
    · simp (config := { decide := true }) only [go_sem, Int.reduceToNat, Nat.reduceAdd, Nat.reduceSub, Nat.reduceMul, Nat.reduceBEq, reduceIte, reduceCtorEq]
      refine HW.run 100 (by kernel_rfl) ?_
      simp (config := { decide := true }) only [go_sem, Int.reduceToNat, Nat.reduceAdd, Nat.reduceSub, Nat.reduceMul, Nat.reduceBEq, reduceIte, reduceCtorEq]
      have hR' : lowerF p q g (beginS q) [] l = none := by rw [hR, lowerF, if_neg (by simp [hw])]
      refine ⟨_, _, Ghost.trunc [] 9 (by omega) rfl ?_, rfl, hR', out.length, out, rfl⟩
      simp (config := { decide := true }) only [go_sem, Nat.reduceBEq, reduceIte]
  · rintro Hf - ⟨pre, s, out, r, hX, hpre, hout, hjl, hths, hs, hR, rfl⟩
    obtain rfl := alongX_end hX hpre
    simp (config := { decide := true }) only [go_sem, Int.reduceToNat, Nat.reduceAdd, Nat.reduceSub, Nat.reduceMul, Nat.reduceBEq, reduceIte, reduceCtorEq]
    rw [hR]
    exact .inl rfl
  · rintro c Hf - ⟨rfl, hn, n, out, rfl⟩
    unfold XQ
    simp (config := { decide := true }) only [go_sem, Int.reduceToNat, Nat.reduceAdd, Nat.reduceSub, Nat.reduceMul, Nat.reduceBEq, reduceIte, reduceCtorEq]
    exact .inr hn
end Go.Proofs.Yteieinhgdjjdoaa
namespace Go.Proofs.Yteieinhgdjjdoaa
open Go.RowKit
set_option maxRecDepth 8000
def bufP : Prg := ⟨[0, 0], [[⟨4, 0, 0, 1, 0⟩, ⟨2, 0, 1, 0, 0⟩], [⟨4, 0, 1, 1, 0⟩, ⟨2, 0, 0, 0, 0⟩]]⟩
def loose : List Pck := [⟨0, false⟩, ⟨0, false⟩, ⟨1, false⟩, ⟨1, false⟩, ⟨0, true⟩, ⟨1, true⟩]
theorem bufP_right : RightP bufP := rightPB_iff.1 (by rfl)
theorem bufP_forty : Forty bufP := fun l hl => by
  simp [bufP] at hl
  rcases hl with rfl | rfl <;> simp
theorem lawBuffering : HFn Try.prog 28 [] (prgH bufP) := by
  refine HFn_bodyF (fn := Try.f28) 4 10 [.cell 0 25] (by kernel_rfl) rfl rfl (by kernel_rfl) (HW.run 400 (by kernel_rfl) ?_)
  simp (config := { decide := true }) only [go_sem, Int.reduceToNat, Nat.reduceAdd, Nat.reduceSub, Nat.reduceMul, Nat.reduceBEq, reduceIte, reduceCtorEq]
  rfl
theorem lawLoose : HFn Try.prog 29 [] (.sl (pcks loose)) := by
  refine HFn.shut (R := owPcks loose) ?_ (by simp only [fzo, pcks_fzoR])
  refine HCalls_body (fn := Try.f29) 8 [0] (by kernel_rfl) rfl (by kernel_rfl) (HW.run 400 (by kernel_rfl) ?_)
  simp (config := { decide := true }) only [go_sem, Int.reduceToNat, Nat.reduceAdd, Nat.reduceSub, Nat.reduceMul, Nat.reduceBEq, reduceIte, reduceCtorEq]
  rfl
theorem crossLoose : crossF bufP (beginS bufP) [] loose = some [1, 3] := by rfl
theorem crossBad : crossF bufP (beginS bufP) [] [⟨0, true⟩] = none := by rfl
theorem raiseBad : raiseF bufP [1] (beginS bufP) [] loose = none := by rfl
theorem raiseGood : raiseF bufP [0, 2] (beginS bufP) [] (loose.take 3) = some [⟨0, false⟩, ⟨0, false⟩, ⟨0, false⟩, ⟨1, false⟩, ⟨1, false⟩] := by rfl
theorem lowerGood : lowerF bufP (insP bufP [0, 2]) [0, 2] (beginS (insP bufP [0, 2])) [] [⟨0, false⟩, ⟨0, false⟩, ⟨0, false⟩, ⟨1, false⟩, ⟨1, false⟩] = some (loose.take 3) := by rfl
set_option maxHeartbeats 8000000 in
theorem lawHead : HFn Try.prog 9 [] (.v (.bool true)) := by
  have hl : loose.length = 6 := rfl
  have hC1 := crossCross bufP loose bufP_right (by rw [hl]; omega)
  rw [crossLoose] at hC1
  have hC2 := crossCross bufP [⟨0, true⟩] bufP_right (by simp)
  rw [crossBad] at hC2
  have hR1 := crossRaise bufP [1] loose bufP_right (by simp) (by rw [hl]; omega)
  rw [raiseBad] at hR1
  have hR2 := crossRaise bufP [0, 2] (loose.take 3) bufP_right (by simp) (by simp [hl])
  rw [raiseGood] at hR2
  have hL := crossLower bufP [0, 2] [⟨0, false⟩, ⟨0, false⟩, ⟨0, false⟩, ⟨1, false⟩, ⟨1, false⟩] bufP_right bufP_forty (by simp) (by simp)
  rw [lowerGood] at hL
  refine HCalls_body (fn := Try.f9) 84 [0] (by kernel_rfl) rfl (by kernel_rfl) (HW.run 400 (by kernel_rfl) ?_)
  simp (config := { decide := true }) only [go_sem, Int.reduceToNat, Nat.reduceAdd, Nat.reduceSub, Nat.reduceMul, Nat.reduceBEq, reduceIte, reduceCtorEq]
  refine callX_nm (lawBuffering) rfl rfl ?_
  simp (config := { decide := true }) only [go_sem, Int.reduceToNat, Nat.reduceAdd, Nat.reduceSub, Nat.reduceMul, Nat.reduceBEq, reduceIte, reduceCtorEq]
  refine HW.tree 1 (.light 0 (.heavy 1 [0] (.heavy 2 [] (.light 3 (.light 4 (.light 5 (.light 6 (.light 7 .leaf))))) .stop) .stop)) follows (by kernel_rfl) (by kernel_rfl) ?_
  simp (config := { decide := true }) only [go_sem, Int.reduceToNat, Nat.reduceAdd, Nat.reduceSub, Nat.reduceMul, Nat.reduceBEq, reduceIte, reduceCtorEq]
  refine callX_nm (lawLoose) rfl rfl ?_
  simp (config := { decide := true }) only [go_sem, Int.reduceToNat, Nat.reduceAdd, Nat.reduceSub, Nat.reduceMul, Nat.reduceBEq, reduceIte, reduceCtorEq]
  refine callX_nm (hC1) rfl rfl ?_
  simp (config := { decide := true }) only [go_sem, Int.reduceToNat, Nat.reduceAdd, Nat.reduceSub, Nat.reduceMul, Nat.reduceBEq, reduceIte, reduceCtorEq]
  refine callX_fn 3 (hC2) (by simp only [go_sem]; rfl) rfl ?_
  simp (config := { decide := true }) only [go_sem, Int.reduceToNat, Nat.reduceAdd, Nat.reduceSub, Nat.reduceMul, Nat.reduceBEq, reduceIte, reduceCtorEq]
  refine HW.tree 1 (.light 0 (.light 1 (.heavy 2 [0,1] (.heavy 3 [] (.light 4 (.light 5 (.light 6 (.light 7 (.light 8 .leaf))))) .stop) .stop))) follows (by kernel_rfl) (by kernel_rfl) ?_
  simp (config := { decide := true }) only [go_sem, Int.reduceToNat, Nat.reduceAdd, Nat.reduceSub, Nat.reduceMul, Nat.reduceBEq, reduceIte, reduceCtorEq]
  refine callX_nm (lawLoose) rfl rfl ?_
  simp (config := { decide := true }) only [go_sem, Int.reduceToNat, Nat.reduceAdd, Nat.reduceSub, Nat.reduceMul, Nat.reduceBEq, reduceIte, reduceCtorEq]
  refine callX_nm (hR1) rfl rfl ?_
  simp (config := { decide := true }) only [go_sem, Int.reduceToNat, Nat.reduceAdd, Nat.reduceSub, Nat.reduceMul, Nat.reduceBEq, reduceIte, reduceCtorEq]
  refine HW.tree 1 (.light 0 (.light 1 (.heavy 2 [0,1] (.light 3 (.heavy 4 [] (.light 5 (.light 6 (.light 7 (.light 8 (.light 9 .leaf))))) .stop)) .stop))) follows (by kernel_rfl) (by kernel_rfl) ?_
  simp (config := { decide := true }) only [go_sem, Int.reduceToNat, Nat.reduceAdd, Nat.reduceSub, Nat.reduceMul, Nat.reduceBEq, reduceIte, reduceCtorEq]
  refine callX_nm (lawLoose) rfl rfl ?_
  simp (config := { decide := true }) only [go_sem, Int.reduceToNat, Nat.reduceAdd, Nat.reduceSub, Nat.reduceMul, Nat.reduceBEq, reduceIte, reduceCtorEq]
  refine callX_nm (hR2) rfl rfl ?_
  simp (config := { decide := true }) only [go_sem, Int.reduceToNat, Nat.reduceAdd, Nat.reduceSub, Nat.reduceMul, Nat.reduceBEq, reduceIte, reduceCtorEq]
  refine callX_fn 3 (hL) (by simp only [go_sem]; rfl) rfl ?_
  simp (config := { decide := true }) only [go_sem, Int.reduceToNat, Nat.reduceAdd, Nat.reduceSub, Nat.reduceMul, Nat.reduceBEq, reduceIte, reduceCtorEq]
  refine callX_fn 3 (refSameInts [1, 3] [1, 3] (by simp)) (by simp only [go_sem]; rfl) rfl ?_
  simp (config := { decide := true }) only [go_sem, Int.reduceToNat, Nat.reduceAdd, Nat.reduceSub, Nat.reduceMul, Nat.reduceBEq, reduceIte, reduceCtorEq]
  refine callX_fn 3 (refSamePicks [⟨0, false⟩, ⟨0, false⟩, ⟨0, false⟩, ⟨1, false⟩, ⟨1, false⟩] [⟨0, false⟩, ⟨0, false⟩, ⟨0, false⟩, ⟨1, false⟩, ⟨1, false⟩] (by simp)) (by simp only [go_sem]; rfl) rfl ?_
  simp (config := { decide := true }) only [go_sem, Int.reduceToNat, Nat.reduceAdd, Nat.reduceSub, Nat.reduceMul, Nat.reduceBEq, reduceIte, reduceCtorEq]
  refine callX_nm (lawLoose) rfl rfl ?_
  simp (config := { decide := true }) only [go_sem, Int.reduceToNat, Nat.reduceAdd, Nat.reduceSub, Nat.reduceMul, Nat.reduceBEq, reduceIte, reduceCtorEq]
  refine callX_fn 3 (refSamePicks (loose.take 3) (loose.take 3) (by simp [hl])) (by simp only [go_sem]) rfl ?_
  simp (config := { decide := true }) only [go_sem, Int.reduceToNat, Nat.reduceAdd, Nat.reduceSub, Nat.reduceMul, Nat.reduceBEq, reduceIte, reduceCtorEq]
end Go.Proofs.Yteieinhgdjjdoaa
namespace Go.Proofs.Yteieinhgdjjdoaa
open Go.RowKit
set_option maxRecDepth 8000
abbrev insH2 (p : Prg) (n : Nat) (thr : List (List HV)) : Heap :=
  [some ⟨25, 2, [[.sl (ints p.init), .sl (thrs p.thr)]]⟩, some ⟨25, 2, [[.v (.slice none 0 0), .v (.slice none 0 0)]]⟩,
   some ⟨3, 1, ints p.init⟩, some ⟨25, 2, [[.hd 2 0 p.init.length, .hd 4 0 n]]⟩, some ⟨45, 1, thr⟩]
set_option maxHeartbeats 8000000 in
theorem refInsert (p : Prg) (g : List Int) (hp : RightP p) (hg : g.length ≤ 100000) : HFn Try.prog 21 [prgH p, .sl (ints g)] (prgH (insP p g)) := by
  have hsm := hp.small
  have hl := hsm.thr
  have hi := hsm.init
  refine HFn_bodyF (fn := Try.f21) 3 81 [.cell 4 25] (by kernel_rfl) rfl rfl (by kernel_rfl) (HW.run 400 (by kernel_rfl) ?_)
  simp (config := { decide := true }) only [go_sem, Int.reduceToNat, Nat.reduceAdd, Nat.reduceSub, Nat.reduceMul, Nat.reduceBEq, reduceIte, reduceCtorEq]
  repeat (with_reducible refine And.intro ?_ ?_; · (with_reducible and_intros) <;> omega)
  refine HW.loopG (fun k T H => ∃ (i : Nat), k = p.thr.length - i ∧ i ≤ p.thr.length ∧
    T 1 = .sl (ints g) ∧ T 2 = .pt 0 1 0 0 ∧ T 5 = .pt 3 1 0 0 ∧ T 4 = .pt 1 1 0 0 ∧ T 6 = .v (.int .i64 (startB p.thr i)) ∧ T 7 = .v (.int .i64 i) ∧
    H = insH2 p i (thrsO (insF g p.thr i))) p.thr.length
    ⟨_, _, (Ghost.cell 3 0 1 (.ow 45 1 []) rfl rfl rfl rfl (Conv.nilOw _ _) (by simp)).trans (Ghost.open 3 0 1), 0, rfl, by omega, rfl, rfl, rfl, rfl, rfl, rfl, ?_⟩ ?_
  · rfl
  rintro k T H ⟨i, rfl, hi, h1, h2, h5, h4, h6, h7, rfl⟩
  refine HW.run 200 (by kernel_rfl) ?_
  have hsb := startB_le hsm i
  by_cases hlt : i < p.thr.length
  · have hlt' : ((i : Int) < (p.thr.length : Int)) = True := by rw [int_lt]; simp [hlt]
    have hx : p.thr[i]? = some p.thr[i] := List.getElem?_eq_getElem hlt
    have hxl := hsm.len _ (List.getElem_mem hlt)
    have hst : startB p.thr (i + 1) = startB p.thr i + (p.thr[i]).length := by show startB p.thr i + _ = _; rw [hx]; rfl
    have hRx := fun a x h => hp.x i _ hx a x h
    have hF : insF g p.thr (i + 1) = insF g p.thr i ++ [insT g (startB p.thr i) p.thr[i]] := by rw [insF, hx]; rfl
    generalize p.thr[i] = l at hx hxl hst hRx hF
    generalize startB p.thr i = n at hsb hst h6 hF
    simp (config := { decide := true }) only [go_sem, Int.reduceToNat, Nat.reduceAdd, Nat.reduceSub, Nat.reduceMul, Nat.reduceBEq, reduceIte, reduceCtorEq, h1, h2, h5, h4, h6, h7, hlt']
    have hn : n ≤ 3000 := by omega
    refine HW.loopG (fun k T H => ∃ (j : Nat), k = l.length - j ∧ j ≤ l.length ∧
      T 1 = .sl (ints g) ∧ T 2 = .pt 0 1 0 0 ∧ T 5 = .pt 3 1 0 0 ∧ T 4 = .pt 1 1 0 0 ∧ T 6 = .v (.int .i64 n) ∧ T 7 = .v (.int .i64 i) ∧
      T 8 = .hd 5 0 (insR g n (l.take j)).length ∧ T 9 = .v (.int .i64 j) ∧
      H = insH2 p i (thrsO (insF g p.thr i)) ++ [some ⟨44, 5, stps ((insR g n (l.take j)).map (insStp g n))⟩]) l.length
      ⟨_, _, (Ghost.nil 8 44 5 (by simp (config := { decide := true }) only [go_sem, Nat.reduceBEq, reduceIte])), 0, rfl, by omega, ?_, ?_, ?_, ?_, ?_, ?_, ?_, ?_, ?_⟩ ?_
    iterate 9 (first | focus (simp (config := { decide := true }) only [go_sem, Nat.reduceBEq, reduceIte, h1, h2, h5, h4, h6, h7]; done) | focus (simp (config := { decide := true }) only [go_sem, Nat.reduceBEq, reduceIte]; rfl) | rfl)
    clear h1 h2 h5 h4 h6 h7 T
    rintro k T H ⟨j, rfl, hj, h1, h2, h5, h4, h6, h7, h8, h9, rfl⟩
    refine HW.run 200 (by kernel_rfl) ?_
    have hlr := insR_len g n l j hj
    have hcl := countB_le g n j
    by_cases hjl : j < l.length
    · have hj' : ((j : Int) < (l.length : Int)) = True := by rw [int_lt]; simp [hjl]
      have hy : l[j]? = some l[j] := List.getElem?_eq_getElem hjl
      have htk : l.take (j + 1) = l.take j ++ [l[j]] := by rw [List.take_add_one, hy]; rfl
      have hR2 : insR g n (l.take (j + 1)) = insR g n (l.take j) ++ ((if hasB g ((n + j : Nat) : Int) = true then [fnc] else []) ++ [l[j]]) := by
        rw [htk, insR_snoc, List.length_take, Nat.min_eq_left (by omega)]
      have hRy := hRx j _ hy
      generalize l[j] = y at hy hR2 hRy
      have hwn : IntKind.i64.wrap ((n : Int) + (j : Int)) = ((n + j : Nat) : Int) := by rw [w64 (by omega) (by omega)]; rfl
      have hML : ((insR g n (l.take j)).map (insStp g n)).length = (insR g n (l.take j)).length := List.length_map _
      have hfn : insStp g n fnc = fnc := by unfold insStp fnc; rw [if_neg (by decide)]
      generalize insR g n (l.take j) = R at h8 hlr hR2 hML ⊢
      simp (config := { decide := true }) only [go_sem, Int.reduceToNat, Nat.reduceAdd, Nat.reduceSub, Nat.reduceMul, Nat.reduceBEq, reduceIte, reduceCtorEq, h1, h2, h5, h4, h6, h7, h8, h9, hlt', hj', hx, hy, hwn]
      refine callX_fn 3 (refHasS g ((n + j : Nat) : Int) (by omega)) (by simp only [go_sem]) rfl ?_
      have fin : ∀ (T' : Nat → HV) (R2 : List Stp) (B : Heap), insR g n (l.take (j + 1)) = R2 → T' 1 = .sl (ints g) → T' 2 = .pt 0 1 0 0 → T' 5 = .pt 3 1 0 0 → T' 4 = .pt 1 1 0 0 → T' 6 = .v (.int .i64 n) → T' 7 = .v (.int .i64 i) → T' 8 = .hd 5 0 R2.length → T' 9 = .v (.int .i64 (IntKind.i64.wrap ((j : Int) + 1))) →
          GQ 81 0 (fun T' H' => ∃ k', k' < l.length - j ∧ ∃ j, k' = l.length - j ∧ j ≤ l.length ∧ T' 1 = .sl (ints g) ∧ T' 2 = .pt 0 1 0 0 ∧ T' 5 = .pt 3 1 0 0 ∧ T' 4 = .pt 1 1 0 0 ∧ T' 6 = .v (.int .i64 n) ∧ T' 7 = .v (.int .i64 i) ∧
            T' 8 = .hd 5 0 (insR g n (l.take j)).length ∧ T' 9 = .v (.int .i64 j) ∧ H' = insH2 p i (thrsO (insF g p.thr i)) ++ [some ⟨44, 5, stps ((insR g n (l.take j)).map (insStp g n))⟩]) T' (insH2 p i (thrsO (insF g p.thr i)) ++ some ⟨44, 5, stps (R2.map (insStp g n))⟩ :: B) := by
        intro T' R2 B hR k1 k2 k5 k4 k6 k7 k8 k9
        refine GQ.step (Ghost.trunc [1, 2, 5, 4, 6, 7, 8, 9] 6 (by omega) ?_ ?_) (GQ.done ⟨l.length - (j + 1), by omega, j + 1, rfl, by omega, ?_, ?_, ?_, ?_, ?_, ?_, ?_, ?_, ?_⟩)
        · simp (config := { decide := true }) only [go_sem, Nat.reduceBEq, reduceIte, k1, k2, k5, k4, k6, k7, k8, k9, List.all_cons, List.all_nil]
        · simp (config := { decide := true }) only [go_sem, Nat.reduceBEq, reduceIte]
        iterate 6 simp (config := { decide := true }) only [go_sem, Nat.reduceBEq, reduceIte, k1, k2, k5, k4, k6, k7]
        · simp (config := { decide := true }) only [go_sem, Nat.reduceBEq, reduceIte, k8, hR]
        · simp (config := { decide := true }) only [go_sem, Nat.reduceBEq, reduceIte, k9]; rw [w64 (by omega) (by omega)]; rfl
        · rw [hR]; rfl
      cases hin : hasB g ((n + j : Nat) : Int) with
      | true =>
        rw [hin, if_pos rfl] at hR2
        by_cases h8o : 8 ≤ y.op
        · have h8' : ((8 : Int) ≤ y.op) = True := by simp [h8o]
          obtain ⟨t0, t1⟩ := hRy.to.1 h8o
          obtain ⟨q, hq⟩ : ∃ q : Nat, y.to = q := ⟨y.to.toNat, by omega⟩
          have hcq := countB_le g n q
          have hwq : IntKind.i64.wrap ((q : Int) + (countB g n q : Int)) = (q : Int) + (countB g n q : Int) := w64 (by omega) (by omega)
          simp (config := { decide := true }) only [go_sem, Int.reduceToNat, Nat.reduceAdd, Nat.reduceSub, Nat.reduceMul, Nat.reduceBEq, reduceIte, reduceCtorEq, h1, h2, h5, h4, h6, h7, h8, h9, hlt', hj', hx, hy, hML, h8']
          repeat (with_reducible refine And.intro ?_ ?_; · (with_reducible and_intros) <;> omega)
          refine HW.tree 1 (.light 0 (.light 1 (.light 2 (.light 3 (.light 4 (.light 5 (.heavy 6 [0,1] (.light 7 (.light 8 (.heavy 9 [] .leaf .stop))) .stop))))))) follows (by kernel_rfl) (by kernel_rfl) ?_
          simp (config := { decide := true }) only [go_sem, Int.reduceToNat, Nat.reduceAdd, Nat.reduceSub, Nat.reduceMul, Nat.reduceBEq, reduceIte, reduceCtorEq, h1, h2, h5, h4, h6, h7, h8, h9, hlt', hj', hx, hy, hML, h8', hq]
          refine callX_nm (refCount g n q (by omega) (by omega) (by omega)) rfl rfl ?_
          simp (config := { decide := true }) only [go_sem, Int.reduceToNat, Nat.reduceAdd, Nat.reduceSub, Nat.reduceMul, Nat.reduceBEq, reduceIte, reduceCtorEq, h1, h2, h5, h4, h6, h7, h8, h9, hlt', hj', hx, hy, hML, h8', hq, hwq]
          repeat (with_reducible refine And.intro ?_ ?_; · (with_reducible and_intros) <;> omega)
          have e : insStp g n y = ⟨y.op, y.reg, y.loc, y.n, (q : Int) + (countB g n q : Int)⟩ := by
            unfold insStp; rw [if_pos h8o, hq, Int.toNat_natCast]
          have hrows : (R ++ ([fnc] ++ [y])).map (insStp g n) = R.map (insStp g n) ++ [fnc] ++ [⟨y.op, y.reg, y.loc, y.n, (q : Int) + (countB g n q : Int)⟩] := by simp [hfn, e]
          have F := fun T' B => fin T' (R ++ ([fnc] ++ [y])) B hR2
          simp only [hrows] at F
          refine F _ _ ?_ ?_ ?_ ?_ ?_ ?_ ?_ ?_
          iterate 6 simp (config := { decide := true }) only [go_sem, Nat.reduceBEq, reduceIte, h1, h2, h5, h4, h6, h7]
          · first | (simp (config := { decide := true }) only [go_sem, Nat.reduceBEq, reduceIte]; done) | (simp (config := { decide := true }) only [go_sem, Nat.reduceBEq, reduceIte]; simp)
          · simp (config := { decide := true }) only [go_sem, Nat.reduceBEq, reduceIte, h9]
        · have h8' : ((8 : Int) ≤ y.op) = False := by simp [h8o]
          simp (config := { decide := true }) only [go_sem, Int.reduceToNat, Nat.reduceAdd, Nat.reduceSub, Nat.reduceMul, Nat.reduceBEq, reduceIte, reduceCtorEq, h1, h2, h5, h4, h6, h7, h8, h9, hlt', hj', hx, hy, hML, h8']
          repeat (with_reducible refine And.intro ?_ ?_; · (with_reducible and_intros) <;> omega)
          have e : insStp g n y = y := by unfold insStp; rw [if_neg h8o]
          have hrows : (R ++ ([fnc] ++ [y])).map (insStp g n) = R.map (insStp g n) ++ [fnc] ++ [y] := by simp [hfn, e]
          have F := fun T' B => fin T' (R ++ ([fnc] ++ [y])) B hR2
          simp only [hrows] at F
          refine F _ _ ?_ ?_ ?_ ?_ ?_ ?_ ?_ ?_
          iterate 6 simp (config := { decide := true }) only [go_sem, Nat.reduceBEq, reduceIte, h1, h2, h5, h4, h6, h7]
          · first | (simp (config := { decide := true }) only [go_sem, Nat.reduceBEq, reduceIte]; done) | (simp (config := { decide := true }) only [go_sem, Nat.reduceBEq, reduceIte]; simp)
          · simp (config := { decide := true }) only [go_sem, Nat.reduceBEq, reduceIte, h9]
      | false =>
        rw [hin, if_neg (by simp)] at hR2
        by_cases h8o : 8 ≤ y.op
        · have h8' : ((8 : Int) ≤ y.op) = True := by simp [h8o]
          obtain ⟨t0, t1⟩ := hRy.to.1 h8o
          obtain ⟨q, hq⟩ : ∃ q : Nat, y.to = q := ⟨y.to.toNat, by omega⟩
          have hcq := countB_le g n q
          have hwq : IntKind.i64.wrap ((q : Int) + (countB g n q : Int)) = (q : Int) + (countB g n q : Int) := w64 (by omega) (by omega)
          simp (config := { decide := true }) only [go_sem, Int.reduceToNat, Nat.reduceAdd, Nat.reduceSub, Nat.reduceMul, Nat.reduceBEq, reduceIte, reduceCtorEq, h1, h2, h5, h4, h6, h7, h8, h9, hlt', hj', hx, hy, hML, h8']
          repeat (with_reducible refine And.intro ?_ ?_; · (with_reducible and_intros) <;> omega)
          refine HW.tree 1 (.light 0 (.light 1 (.light 2 (.light 3 (.light 4 (.light 5 (.heavy 6 [0,1] (.light 7 (.light 8 (.heavy 9 [] .leaf .stop))) .stop))))))) follows (by kernel_rfl) (by kernel_rfl) ?_
          simp (config := { decide := true }) only [go_sem, Int.reduceToNat, Nat.reduceAdd, Nat.reduceSub, Nat.reduceMul, Nat.reduceBEq, reduceIte, reduceCtorEq, h1, h2, h5, h4, h6, h7, h8, h9, hlt', hj', hx, hy, hML, h8', hq]
          refine callX_nm (refCount g n q (by omega) (by omega) (by omega)) rfl rfl ?_
          simp (config := { decide := true }) only [go_sem, Int.reduceToNat, Nat.reduceAdd, Nat.reduceSub, Nat.reduceMul, Nat.reduceBEq, reduceIte, reduceCtorEq, h1, h2, h5, h4, h6, h7, h8, h9, hlt', hj', hx, hy, hML, h8', hq, hwq]
          repeat (with_reducible refine And.intro ?_ ?_; · (with_reducible and_intros) <;> omega)
          have e : insStp g n y = ⟨y.op, y.reg, y.loc, y.n, (q : Int) + (countB g n q : Int)⟩ := by
            unfold insStp; rw [if_pos h8o, hq, Int.toNat_natCast]
          have hrows : (R ++ ([] ++ [y])).map (insStp g n) = R.map (insStp g n) ++ [⟨y.op, y.reg, y.loc, y.n, (q : Int) + (countB g n q : Int)⟩] := by simp [hfn, e]
          have F := fun T' B => fin T' (R ++ ([] ++ [y])) B hR2
          simp only [hrows] at F
          refine F _ _ ?_ ?_ ?_ ?_ ?_ ?_ ?_ ?_
          iterate 6 simp (config := { decide := true }) only [go_sem, Nat.reduceBEq, reduceIte, h1, h2, h5, h4, h6, h7]
          · first | (simp (config := { decide := true }) only [go_sem, Nat.reduceBEq, reduceIte]; done) | (simp (config := { decide := true }) only [go_sem, Nat.reduceBEq, reduceIte]; simp)
          · simp (config := { decide := true }) only [go_sem, Nat.reduceBEq, reduceIte, h9]
        · have h8' : ((8 : Int) ≤ y.op) = False := by simp [h8o]
          simp (config := { decide := true }) only [go_sem, Int.reduceToNat, Nat.reduceAdd, Nat.reduceSub, Nat.reduceMul, Nat.reduceBEq, reduceIte, reduceCtorEq, h1, h2, h5, h4, h6, h7, h8, h9, hlt', hj', hx, hy, hML, h8']
          repeat (with_reducible refine And.intro ?_ ?_; · (with_reducible and_intros) <;> omega)
          have e : insStp g n y = y := by unfold insStp; rw [if_neg h8o]
          have hrows : (R ++ ([] ++ [y])).map (insStp g n) = R.map (insStp g n) ++ [y] := by simp [hfn, e]
          have F := fun T' B => fin T' (R ++ ([] ++ [y])) B hR2
          simp only [hrows] at F
          refine F _ _ ?_ ?_ ?_ ?_ ?_ ?_ ?_ ?_
          iterate 6 simp (config := { decide := true }) only [go_sem, Nat.reduceBEq, reduceIte, h1, h2, h5, h4, h6, h7]
          · first | (simp (config := { decide := true }) only [go_sem, Nat.reduceBEq, reduceIte]; done) | (simp (config := { decide := true }) only [go_sem, Nat.reduceBEq, reduceIte]; simp)
          · simp (config := { decide := true }) only [go_sem, Nat.reduceBEq, reduceIte, h9]
    · have hj' : ((j : Int) < (l.length : Int)) = False := by rw [int_lt]; simp [hjl]
      obtain rfl : j = l.length := by omega
      rw [List.take_length] at hlr h8 ⊢
      simp (config := { decide := true }) only [go_sem, Int.reduceToNat, Nat.reduceAdd, Nat.reduceSub, Nat.reduceMul, Nat.reduceBEq, reduceIte, reduceCtorEq, h1, h2, h5, h4, h6, h7, h8, h9, hlt', hj', hx, List.length_map]
      have hil : i = (insF g p.thr i).length := (insF_len g p.thr i).symm
      refine ⟨⟨hil, by omega, by omega⟩, ?_⟩
      have hTl : (thrsO (insF g p.thr i)).length = i := by rw [thrsO_len, insF_len]
      have hrl : ∀ X, (thrsO (insF g p.thr i) ++ [X])[i]? = some X := fun X => row_last hTl
      have hsl : ∀ X Y, (thrsO (insF g p.thr i) ++ [X]).set i Y = thrsO (insF g p.thr i) ++ [Y] := fun X Y => set_last hTl
      refine GQ.step (Ghost.absorb 4 i 0) ?_
      simp (config := { decide := true }) only [go_sem, Int.reduceToNat, Nat.reduceAdd, Nat.reduceSub, Nat.reduceMul, Nat.reduceBEq, reduceIte, reduceCtorEq, hrl, hsl, absorb_eq, onOb_some, List.length_map]
      refine GQ.step (Ghost.trunc [1, 2, 5, 4, 6, 7] 5 (by omega) ?_ ?_) (GQ.done ⟨p.thr.length - (i + 1), by omega, i + 1, rfl, by omega, ?_, ?_, ?_, ?_, ?_, ?_, ?_⟩)
      · simp (config := { decide := true }) only [go_sem, Nat.reduceBEq, reduceIte, h1, h2, h5, h4, h6, h7]
      · simp (config := { decide := true }) only [go_sem, Nat.reduceBEq, reduceIte, hsl, nmR_append, List.set_cons_succ, List.set_cons_zero]
      iterate 4 simp (config := { decide := true }) only [go_sem, Nat.reduceBEq, reduceIte, h1, h2, h5, h4]
      · simp (config := { decide := true }) only [go_sem, Nat.reduceBEq, reduceIte, hst]; rw [w64 (by omega) (by omega)]; rfl
      · simp (config := { decide := true }) only [go_sem, Nat.reduceBEq, reduceIte]; rw [w64 (by omega) (by omega)]; rfl
      · rw [hF, ← thrsO_snoc]
        simp (config := { decide := true }) only [go_sem, Int.reduceToNat, Nat.reduceAdd, Nat.reduceSub, Nat.reduceMul, Nat.reduceBEq, reduceIte, reduceCtorEq, hsl]
        rfl
  · have hlt' : ((i : Int) < (p.thr.length : Int)) = False := by rw [int_lt]; simp [hlt]
    have e : i = p.thr.length := by omega
    have e2 : (i = (insF g p.thr i).length) = True := by rw [insF_len]; simp
    simp (config := { decide := true }) only [go_sem, Int.reduceToNat, Nat.reduceAdd, Nat.reduceSub, Nat.reduceMul, Nat.reduceBEq, reduceIte, reduceCtorEq, h1, h2, h5, h4, h6, h7, hlt', e2]
    rw [e]; rfl
end Go.Proofs.Yteieinhgdjjdoaa
namespace Go.Proofs.Yteieinhgdjjdoaa
open Go.RowKit
set_option maxRecDepth 8000
end Go.Proofs.Yteieinhgdjjdoaa
namespace Go.Proofs.Yteieinhgdjjdoaa
open Go.RowKit
set_option maxRecDepth 8000
def nilUp : HV → HV
  | .v (.slice none 0 0) => .sl []
  | h => h
theorem RL_nilUp {Z : Nat → Prop} {G : List (Option OG)} {w : World} : ∀ (args : List HV) (vals : List Value), RL Z G w args vals [] → RL Z G w (args.map nilUp) vals []
  | [], vals, h => h
  | x :: r, vals, h => by
    simp only [RL, List.map_cons] at h ⊢
    obtain ⟨y, ys, f1, f2, e1, e2, h1, h2⟩ := h
    have e3 := e2
    rw [eq_comm, List.append_eq_nil_iff] at e3
    obtain ⟨rfl, rfl⟩ := e3
    refine ⟨y, ys, [], [], e1, e2, ?_, RL_nilUp r ys h2⟩
    unfold nilUp
    split
    · exact Conv.nilSl _ _ _ _ h1
    · exact h1
theorem HCalls.nilA {P : Program} {f : FuncId} {H : Heap} {args args' : List HV} {Q : HV → Heap → Prop} (h : HCalls P f H args' Q) (e : args.map nilUp = args') : HCalls P f H args Q := by
  subst e
  exact ⟨h.1, fun Z G FP w vals hi ha => h.2 Z G FP w vals hi (RL_nilUp _ _ ha)⟩
theorem crossF_len (p : Prg) : ∀ (l : List Pck) (s : Sta) (out x : List Int), crossF p s out l = some x → x.length ≤ out.length + l.length
  | [], s, out, x, h => by simp only [crossF, Option.some.injEq] at h; subst h; simp
  | k :: r, s, out, x, h => by
    unfold crossF at h
    split at h
    · have h1 := crossF_len p r _ _ x h
      have h2 := putB_len out (numS p k.th (thAt s k.th).pc)
      simp only [List.length_cons]
      split at h1 <;> omega
    · cases h
theorem lowerF_len (p q : Prg) (g : List Int) : ∀ (l : List Pck) (s : Sta) (out x : List Pck), lowerF p q g s out l = some x → x.length ≤ out.length + l.length
  | [], s, out, x, h => by simp only [lowerF, Option.some.injEq] at h; subst h; simp
  | k :: r, s, out, x, h => by
    unfold lowerF at h
    split at h
    · have := lowerF_len p q g r _ _ x h
      simp only [List.length_cons]
      split at this
      · simp only [List.length_append, List.length_singleton] at this; omega
      · omega
    · cases h
theorem raiseF_len (p : Prg) (g : List Int) : ∀ (l : List Pck) (s : Sta) (out x : List Pck), raiseF p g s out l = some x → x.length ≤ out.length + 2 * l.length
  | [], s, out, x, h => by simp only [raiseF, Option.some.injEq] at h; subst h; simp
  | k :: r, s, out, x, h => by
    unfold raiseF at h
    split at h
    · split at h
      · split at h
        · cases h
        · have := raiseF_len p g r _ _ x h
          simp only [List.length_append, List.length_cons, List.length_nil] at this ⊢; omega
      · have := raiseF_len p g r _ _ x h
        simp only [List.length_append, List.length_cons, List.length_nil] at this ⊢; omega
    · cases h
theorem strictF_len (p : Prg) : ∀ (l : List Pck) (s : Sta) (out x : List Pck), strictF p s out l = some x → x.length ≤ out.length + 2 * l.length
  | [], s, out, x, h => by simp only [strictF, Option.some.injEq] at h; subst h; simp
  | k :: r, s, out, x, h => by
    unfold strictF at h
    split at h
    · have := strictF_len p r _ _ x h
      split at this
      · simp only [List.length_append, List.length_cons, List.length_nil] at this ⊢; omega
      · simp only [List.length_append, List.length_cons, List.length_nil] at this ⊢; omega
    · cases h
theorem getD_len {α : Type} {o : Option (List α)} {n : Nat} (h : ∀ x, o = some x → x.length ≤ n) : (o.getD []).length ≤ n := by
  cases o with
  | none => simp
  | some x => exact h x rfl
theorem cross_len {p : Prg} {l : List Pck} : ((crossF p (beginS p) [] l).getD []).length ≤ l.length := getD_len fun x h => by have := crossF_len p l _ _ x h; simpa using this
theorem lower_len {p q : Prg} {g : List Int} {l : List Pck} : ((lowerF p q g (beginS q) [] l).getD []).length ≤ l.length := getD_len fun x h => by have := lowerF_len p q g l _ _ x h; simpa using this
theorem raise_len {p : Prg} {g : List Int} {l : List Pck} : ((raiseF p g (beginS p) [] l).getD []).length ≤ 2 * l.length := getD_len fun x h => by have := raiseF_len p g l _ _ x h; simpa using this
theorem strict_len {p : Prg} {l : List Pck} : ((strictF p (beginS p) [] l).getD []).length ≤ 2 * l.length := getD_len fun x h => by have := strictF_len p l _ _ x h; simpa using this
end Go.Proofs.Yteieinhgdjjdoaa
namespace Go.Proofs.Yteieinhgdjjdoaa
set_option maxRecDepth 8000
def goW (x : Stp) (mem : List Int) (t : Thd) : Option (List Int × Thd) :=
  if t.buf ≠ [] ∧ (x.op = 6 ∨ x.op = 5) then none
  else if x.op = 2 then some (mem, { (thStep x mem t).2 with regs := setI t.regs x.reg (viewB t.buf mem x.loc).1 })
  else if x.op = 3 then some (mem, { (thStep x mem t).2 with buf := t.buf ++ [(x.loc, getI t.regs x.reg)] })
  else if x.op = 4 then some (mem, { (thStep x mem t).2 with buf := t.buf ++ [(x.loc, x.n)] })
  else some (thStep x mem t)
theorem stepW_dr {p : Prg} {s : Sta} {k : Pck} (hk : k.dr = true) (h : 0 ≤ k.th ∧ k.th < s.ths.length) : stepW p s k =
    if (drainB (thAt s k.th).buf s.mem).2.2 = true then (setTh s k.th (drainB (thAt s k.th).buf s.mem).2.1 { thAt s k.th with buf := (drainB (thAt s k.th).buf s.mem).1 }, true) else (s, false) := by
  unfold stepW
  rw [if_neg (not_not_intro h), if_pos hk]
theorem stepW_go {p : Prg} {s : Sta} {k : Pck} (hk : k.dr = false) (h : 0 ≤ k.th ∧ k.th < s.ths.length) : stepW p s k =
    match atS p s k.th with
    | none => (s, false)
    | some x => match goW x s.mem (thAt s k.th) with
      | none => (s, false)
      | some r => (setTh s k.th r.1 r.2, true) := by
  unfold stepW goW
  rw [if_neg (not_not_intro h), if_neg (by rw [hk]; simp)]
  cases atS p s k.th with
  | none => rfl
  | some x =>
    dsimp only
    repeat' split
    all_goals first | rfl | (rename_i e; cases e; rfl) | simp_all
theorem goW_pc {x : Stp} {mem : List Int} {t : Thd} {r : List Int × Thd} (h : goW x mem t = some r) : r.2.pc = if jumpsB x t.eq = true then x.to else t.pc + 1 := by
  unfold goW at h
  repeat' split at h
  all_goals first | cases h | skip
  all_goals exact thStep_pc
theorem thStep_at {x y : Stp} {mem : List Int} {t : Thd} {c : Int} (h1 : y.op = x.op) (h2 : y.reg = x.reg) (h3 : y.loc = x.loc) (h4 : y.n = x.n) :
    thStep y mem { t with pc := c } = ((thStep x mem t).1, { (thStep x mem t).2 with pc := if jumpsB y t.eq = true then y.to else c + 1 }) := by
  unfold thStep
  dsimp only
  rw [h1, h2, h3, h4]
  repeat' split
  all_goals rfl
theorem goW_at {x y : Stp} {mem : List Int} {t : Thd} {c : Int} (h1 : y.op = x.op) (h2 : y.reg = x.reg) (h3 : y.loc = x.loc) (h4 : y.n = x.n) :
    goW y mem { t with pc := c } = (goW x mem t).map fun r => (r.1, { r.2 with pc := if jumpsB y t.eq = true then y.to else c + 1 }) := by
  unfold goW
  rw [thStep_at h1 h2 h3 h4, h1, h2, h3, h4]
  dsimp only
  repeat' split
  all_goals rfl
abbrev runW (p : Prg) (s : Sta) (l : List Pck) : Sta × Nat × Bool := runF (fun s k => stepB p s k true) s l
theorem runW_nil {p : Prg} {s : Sta} : runW p s [] = (s, 0, true) := rfl
theorem runW_cons {p : Prg} {s : Sta} {k : Pck} {l : List Pck} : runW p s (k :: l) = if (stepW p s k).2 = true then ((runW p (stepW p s k).1 l).1, (runW p (stepW p s k).1 l).2.1 + 1, (runW p (stepW p s k).1 l).2.2) else (s, 0, false) := by
  simp only [runW, runF, stepB, if_true]
theorem runW_ok {p : Prg} {s : Sta} {k : Pck} {l : List Pck} : (runW p s (k :: l)).2.2 = ((stepW p s k).2 && (runW p (stepW p s k).1 l).2.2) := by
  rw [runW_cons]
  cases (stepW p s k).2 <;> simp
theorem runW_st {p : Prg} {s : Sta} {k : Pck} {l : List Pck} (h : (stepW p s k).2 = true) : (runW p s (k :: l)).1 = (runW p (stepW p s k).1 l).1 := by
  rw [runW_cons, if_pos h]
def crossed (p : Prg) : Sta → List Pck → List Int
  | _, [] => []
  | s, k :: r => (if k.dr = false ∧ (thAt s k.th).buf ≠ [] then [numS p k.th (thAt s k.th).pc] else []) ++ crossed p (stepW p s k).1 r
theorem crossF_eq (p : Prg) : ∀ (l : List Pck) (s : Sta) (out : List Int), crossF p s out l = if (runW p s l).2.2 = true then some ((crossed p s l).foldl putB out) else none
  | [], s, out => rfl
  | k :: r, s, out => by
    unfold crossF
    rw [runW_ok]
    cases h : (stepW p s k).2 with
    | false => simp
    | true =>
      rw [if_pos rfl, crossF_eq p r, Bool.true_and, crossed]
      congr 2
      split <;> simp
theorem putB_mem {l : List Int} {n m : Int} : m ∈ putB l n ↔ m = n ∨ m ∈ l := by rw [putB_ins, insS_mem]
theorem foldl_putB_mem {m : Int} : ∀ (l out : List Int), m ∈ l.foldl putB out ↔ m ∈ l ∨ m ∈ out
  | [], out => by simp
  | n :: l, out => by
    rw [List.foldl_cons, foldl_putB_mem l, putB_mem, List.mem_cons]
    constructor
    · rintro (h | h | h)
      · exact .inl (.inr h)
      · exact .inl (.inl h)
      · exact .inr h
    · rintro ((h | h) | h)
      · exact .inr (.inl h)
      · exact .inl h
      · exact .inr (.inr h)
theorem foldl_putB_rise : ∀ (l out : List Int), out.Pairwise (· < ·) → (l.foldl putB out).Pairwise (· < ·)
  | [], out, h => h
  | n :: l, out, h => by
    rw [List.foldl_cons]
    exact foldl_putB_rise l _ (by rw [putB_ins]; exact insS_sorted h)
def lowL (p q : Prg) (g : List Int) : Sta → List Pck → List Pck
  | _, [] => []
  | s, k :: r => (if k.dr = true ∨ fenceB p g k.th.toNat (thAt s k.th).pc = false then [k] else []) ++ lowL p q g (stepW q s k).1 r
theorem lowerF_eq (p q : Prg) (g : List Int) : ∀ (l : List Pck) (s : Sta) (out : List Pck), lowerF p q g s out l = if (runW q s l).2.2 = true then some (out ++ lowL p q g s l) else none
  | [], s, out => by simp [lowerF, lowL, runW_nil]
  | k :: r, s, out => by
    unfold lowerF
    rw [runW_ok]
    cases h : (stepW q s k).2 with
    | false => simp
    | true =>
      rw [if_pos rfl, lowerF_eq p q g r, Bool.true_and, lowL]
      congr 2
      split <;> simp
def raiL (p : Prg) (g : List Int) : Sta → List Pck → List Pck
  | _, [] => []
  | s, k :: r => (if k.dr = false ∧ hasB g (numS p k.th (thAt s k.th).pc) = true then [⟨k.th, false⟩, k] else [k]) ++ raiL p g (stepW p s k).1 r
def freeB (p : Prg) (g : List Int) (s : Sta) (l : List Pck) : Bool := (crossed p s l).all fun n => !hasB g n
theorem freeB_cons {p : Prg} {g : List Int} {s : Sta} {k : Pck} {l : List Pck} : freeB p g s (k :: l) = (!(decide (k.dr = false ∧ (thAt s k.th).buf ≠ []) && hasB g (numS p k.th (thAt s k.th).pc)) && freeB p g (stepW p s k).1 l) := by
  simp only [freeB, crossed]
  rw [List.all_append]
  split
  · rename_i h; simp [h]
  · rename_i h
    have : decide (k.dr = false ∧ (thAt s k.th).buf ≠ []) = false := by simpa using h
    rw [this]; simp
theorem raiseF_eq (p : Prg) (g : List Int) : ∀ (l : List Pck) (s : Sta) (out : List Pck), raiseF p g s out l = if ((runW p s l).2.2 && freeB p g s l) = true then some (out ++ raiL p g s l) else none
  | [], s, out => by simp [raiseF, raiL, runW_nil, freeB, crossed]
  | k :: r, s, out => by
    unfold raiseF
    rw [runW_ok, freeB_cons]
    cases h : (stepW p s k).2 with
    | false => simp
    | true =>
      rw [if_pos rfl, raiL]
      by_cases c : k.dr = false ∧ hasB g (numS p k.th (thAt s k.th).pc) = true
      · rw [if_pos c, if_pos c]
        by_cases c2 : (thAt s k.th).buf ≠ []
        · rw [if_pos c2]
          simp [c.1, c.2, c2]
        · rw [if_neg c2, raiseF_eq p g r]
          have : decide (k.dr = false ∧ (thAt s k.th).buf ≠ []) = false := by simp only [decide_eq_false_iff_not, not_and]; exact fun _ => c2
          rw [this]
          simp
      · rw [if_neg c, if_neg c, raiseF_eq p g r]
        have : (decide (k.dr = false ∧ (thAt s k.th).buf ≠ []) && hasB g (numS p k.th (thAt s k.th).pc)) = false := by
          rw [Bool.and_eq_false_iff]
          by_cases d : k.dr = false
          · right
            cases hh : hasB g (numS p k.th (thAt s k.th).pc) with
            | false => rfl
            | true => exact absurd ⟨d, hh⟩ c
          · left; simp [d]
        rw [this]
        simp
theorem meetB_free {p : Prg} {g : List Int} {s : Sta} {l : List Pck} : meetB ((crossed p s l).foldl putB []) g = !freeB p g s l := by
  unfold meetB freeB
  rw [Bool.eq_iff_iff]
  simp only [List.any_eq_true, Bool.not_eq_true', List.all_eq_false, foldl_putB_mem]
  constructor
  · rintro ⟨n, h1, h2⟩
    exact ⟨n, by simpa using h1, by simp [h2]⟩
  · rintro ⟨n, h1, h2⟩
    exact ⟨n, .inl h1, by simpa using h2⟩
end Go.Proofs.Yteieinhgdjjdoaa
namespace Go.Proofs.Yteieinhgdjjdoaa
set_option maxRecDepth 8000
def Slot (p : Prg) (n : Int) (x : Stp) : Prop := ∃ (t : Nat) (l : List Stp) (i : Nat), p.thr[t]? = some l ∧ l[i]? = some x ∧ n = ((startB p.thr t + i : Nat) : Int)
theorem num_at {p : Prg} {s : Sta} {th : Int} {x : Stp} (hp : RightP p) (hs : RightS p s) (h : atS p s th = some x) : numS p th (thAt s th).pc = ((startB p.thr th.toNat + (thAt s th).pc.toNat : Nat) : Int) := by
  obtain ⟨l, c1, c2, hl, ht, hT, hx, hX, hlt⟩ := atS_spec hp hs h
  have hlen := hs.ths
  have := hT.pc
  unfold numS
  rw [if_pos ⟨c1, by omega, this.1, by rw [hl]; exact hlt⟩]
  omega
theorem slot_at {p : Prg} {s : Sta} {th : Int} {x : Stp} (hp : RightP p) (hs : RightS p s) (h : atS p s th = some x) : Slot p (numS p th (thAt s th).pc) x := by
  obtain ⟨l, c1, c2, hl, ht, hT, hx, hX, hlt⟩ := atS_spec hp hs h
  exact ⟨_, l, _, hl, hx, num_at hp hs h⟩
theorem startB_mono (thr : List (List Stp)) : ∀ {t u : Nat}, t < u → startB thr t + ((thr[t]?).getD []).length ≤ startB thr u := by
  intro t u h
  induction u with
  | zero => omega
  | succ u ih =>
    show _ ≤ startB thr u + ((thr[u]?).getD []).length
    rcases Nat.lt_or_ge t u with h' | h'
    · have := ih h'; omega
    · obtain rfl : t = u := by omega
      exact Nat.le_refl _
theorem slot_of {p : Prg} {n : Int} {x : Stp} (h : Slot p n x) : ∃ (t : Nat) (l : List Stp) (i : Nat), p.thr[t]? = some l ∧ l[i]? = some x ∧ ofS p.thr n = ((t : Int), (i : Int), true) := by
  obtain ⟨t, l, i, hl, hx, rfl⟩ := h
  refine ⟨t, l, i, hl, hx, ?_⟩
  have hi := (List.getElem?_eq_some_iff.1 hx).1
  have ht := (List.getElem?_eq_some_iff.1 hl).1
  have : (List.range p.thr.length).find? (ofT p.thr ((startB p.thr t + i : Nat) : Int)) = some t := by
    rw [List.find?_range_eq_some]
    refine ⟨?_, by simpa using ht, fun j hj => ?_⟩
    · unfold ofT
      rw [hl]
      simp only [Option.getD_some, Bool.and_eq_true, decide_eq_true_eq]
      omega
    · have := startB_mono p.thr hj
      unfold ofT
      simp only [Bool.not_eq_true', Bool.and_eq_false_iff, decide_eq_false_iff_not]
      right; omega
  unfold ofS
  rw [this]
  simp only [Prod.mk.injEq, true_and, and_true]
  omega
theorem stepW_in' {p : Prg} {s : Sta} {k : Pck} (h : (stepW p s k).2 = true) : 0 ≤ k.th ∧ k.th < s.ths.length := by
  unfold stepW at h
  split at h
  · cases h
  · rename_i c; exact Decidable.not_not.1 c
theorem stepW_at {p : Prg} {s : Sta} {k : Pck} (h : (stepW p s k).2 = true) (hk : k.dr = false) : ∃ x r, atS p s k.th = some x ∧ goW x s.mem (thAt s k.th) = some r ∧ stepW p s k = (setTh s k.th r.1 r.2, true) := by
  have hin := stepW_in' h
  rw [stepW_go hk hin] at h ⊢
  cases hx : atS p s k.th with
  | none => rw [hx] at h; cases h
  | some x =>
    rw [hx] at h
    dsimp only at h ⊢
    cases hr : goW x s.mem (thAt s k.th) with
    | none => rw [hr] at h; cases h
    | some r => exact ⟨x, r, rfl, hr, rfl⟩
theorem goW_ops {x : Stp} {mem : List Int} {t : Thd} {r : List Int × Thd} (h : goW x mem t = some r) (hb : t.buf ≠ []) : x.op ≠ 6 ∧ x.op ≠ 5 := by
  unfold goW at h
  split at h
  · cases h
  · rename_i c
    exact ⟨fun e => c ⟨hb, .inl e⟩, fun e => c ⟨hb, .inr e⟩⟩
theorem crossed_slots {p : Prg} (hp : RightP p) : ∀ (l : List Pck) (s : Sta), RightS p s → (runW p s l).2.2 = true → ∀ n ∈ crossed p s l, ∃ x, Slot p n x ∧ x.op ≠ 6 ∧ x.op ≠ 5
  | [], s, hs, h, n, hn => by simp [crossed] at hn
  | k :: r, s, hs, h, n, hn => by
    rw [runW_ok, Bool.and_eq_true] at h
    simp only [crossed, List.mem_append] at hn
    rcases hn with hn | hn
    · split at hn
      · rename_i c
        obtain ⟨x, q, h1, h2, h3⟩ := stepW_at h.1 c.1
        obtain rfl := List.mem_singleton.1 hn
        exact ⟨x, slot_at hp hs h1, goW_ops h2 c.2⟩
      · cases hn
    · exact crossed_slots hp r _ (stepW_right hp hs) h.2 n hn
def Empty (s : Sta) : Prop := ∀ t ∈ s.ths, t.buf = []
theorem Empty.at {s : Sta} (h : Empty s) (th : Int) : (thAt s th).buf = [] := by
  unfold thAt
  cases hx : s.ths[th.toNat]? with
  | none => rfl
  | some t => exact h t (List.mem_of_getElem? hx)
theorem begin_empty {p : Prg} : Empty (beginS p) := by
  intro t ht
  simp only [beginS, List.mem_map] at ht
  obtain ⟨_, _, rfl⟩ := ht; rfl
theorem Empty.set {s : Sta} {th : Int} {mem : List Int} {t : Thd} (h : Empty s) (ht : t.buf = []) : Empty (setTh s th mem t) := by
  intro t' ht'
  rcases List.mem_or_eq_of_mem_set ht' with h1 | rfl
  · exact h t' h1
  · exact ht
theorem thAt_set {s : Sta} {th : Int} {mem : List Int} {t : Thd} (h : 0 ≤ th ∧ th < s.ths.length) : thAt (setTh s th mem t) th = t := by
  unfold thAt setTh
  dsimp only
  rw [List.getElem?_set_self (by omega)]; rfl
theorem strict_law {p : Prg} (hp : RightP p) : ∀ (l : List Pck) (s : Sta) (out w : List Pck), RightS p s → Empty s → strictF p s out l = some w → ∃ w', w = out ++ w' ∧ (runW p s w').2.2 = true ∧ crossed p s w' = []
  | [], s, out, w, hs, he, h => by
    simp only [strictF, Option.some.injEq] at h
    exact ⟨[], by simp [h], rfl, rfl⟩
  | k :: r, s, out, w, hs, he, h => by
    unfold strictF at h
    split at h
    · rename_i h1
      have hk : k.dr = false := by
        unfold stepB at h1
        rw [if_neg (by simp)] at h1
        cases hk : k.dr with
        | false => rfl
        | true => rw [if_pos hk] at h1; cases h1
      have e1 : stepB p s k false = stepS p s k.th := by unfold stepB; rw [if_neg (by simp), if_neg (by rw [hk]; simp)]
      rw [e1] at h h1
      unfold stepS at h h1
      cases hx : atS p s k.th with
      | none => rw [hx] at h1; cases h1
      | some x =>
        rw [hx] at h
        dsimp only at h
        obtain ⟨L, c1, c2, hl, ht, hT, hxl, hX, hlt⟩ := atS_spec hp hs hx
        have hb := he.at k.th
        have hbt : (thStep x s.mem (thAt s k.th)).2.buf = [] := by rw [thStep_buf]; exact hb
        have hs' : RightS p (setTh s k.th (thStep x s.mem (thAt s k.th)).1 (thStep x s.mem (thAt s k.th)).2) := by
          have := stepS_right (th := k.th) hp hs
          unfold stepS at this
          rwa [hx] at this
        obtain ⟨w', e, hr, hc⟩ := strict_law hp r _ _ _ hs' (he.set hbt) h
        have hW : stepW p s k = match goW x s.mem (thAt s k.th) with
            | none => (s, false)
            | some r => (setTh s k.th r.1 r.2, true) := by rw [stepW_go hk ⟨c1, c2⟩, hx] <;> rfl
        have hml := hs.mem
        by_cases c : x.op = 3 ∨ x.op = 4
        · rw [Option.getD_some, if_pos c] at e
          have hloc := hX.loc.1 (by rcases c with c | c <;> rw [c] <;> rfl)
          obtain ⟨v, hv⟩ : ∃ v, goW x s.mem (thAt s k.th) = some (s.mem, { (thStep x s.mem (thAt s k.th)).2 with buf := [(x.loc, v)] }) ∧ (thStep x s.mem (thAt s k.th)).1 = setI s.mem x.loc v := by
            rcases c with c | c
            · refine ⟨getI (thAt s k.th).regs x.reg, ?_, ?_⟩
              · unfold goW; simp [hb, c]
              · unfold thStep; simp [c]
            · refine ⟨x.n, ?_, ?_⟩
              · unfold goW; simp [hb, c]
              · unfold thStep; simp [c]
          rw [hv.1] at hW
          dsimp only at hW
          have hD : stepW p (setTh s k.th s.mem { (thStep x s.mem (thAt s k.th)).2 with buf := [(x.loc, v)] }) ⟨k.th, true⟩ = (setTh s k.th (thStep x s.mem (thAt s k.th)).1 (thStep x s.mem (thAt s k.th)).2, true) := by
            rw [stepW_dr rfl (by simp only [setTh, List.length_set]; exact ⟨c1, c2⟩)]
            dsimp only
            rw [thAt_set ⟨c1, c2⟩]
            have hd : drainB [(x.loc, v)] s.mem = ([], setI s.mem x.loc v, true) := by
              unfold drainB
              dsimp only
              rw [if_pos ⟨hloc.1, by omega⟩]
            have e3 : ({ (thStep x s.mem (thAt s k.th)).2 with buf := [] } : Thd) = (thStep x s.mem (thAt s k.th)).2 := by rw [← hbt]
            simp only [setTh, hd, if_true, hv.2, List.set_set, e3]
          refine ⟨k :: ⟨k.th, true⟩ :: w', by rw [e]; simp, ?_, ?_⟩
          · rw [runW_ok, runW_ok, hW]
            dsimp only
            rw [hD]
            simpa using hr
          · rw [crossed, crossed, if_neg (fun h => h.2 hb), if_neg (by simp), hW]
            dsimp only
            rw [hD]
            simpa using hc
        · rw [Option.getD_some, if_neg c] at e
          have hg : goW x s.mem (thAt s k.th) = some (thStep x s.mem (thAt s k.th)) := by
            unfold goW
            rw [if_neg (fun h => h.1 hb)]
            split
            · rename_i h2
              have hloc := hX.loc.1 (by rw [h2]; rfl)
              have : (viewB (thAt s k.th).buf s.mem x.loc).1 = getI s.mem x.loc := by
                rw [hb]
                unfold viewB lastB
                simp [hloc.1, show x.loc < (s.mem.length : Int) by omega]
              rw [this]
              unfold thStep
              simp [h2]
            · rw [if_neg (fun h => c (.inl h)), if_neg (fun h => c (.inr h))]
          rw [hg] at hW
          dsimp only at hW
          refine ⟨k :: w', by rw [e]; simp, ?_, ?_⟩
          · rw [runW_ok, hW]
            simpa using hr
          · rw [crossed, if_neg (fun h => h.2 hb), hW]
            simpa using hc
    · cases h
end Go.Proofs.Yteieinhgdjjdoaa
