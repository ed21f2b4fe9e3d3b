/- Word: strings.ContainsFunc at the closure of Name, by the library's shelf. -/
import Derived.Test.YtcpefnjofekibaaDoorWi
import Derived.Shelf.GgClosure.StringsIndexFuncTop
import Derived.Lib.TrimUEq
namespace Go.Proofs.YtcpefnjofekibaaDoor
open Go.RowKit Go.Shelf
set_option linter.unusedVariables false
set_option maxRecDepth 8000
set_option linter.unusedSimpArgs false

/-- No letter and no digit. -/
def ndR (r : Nat) : Bool := (decide (r < 97) || decide (122 < r)) && (decide (r < 48) || decide (57 < r))

theorem rune_hi (n b0 b1 b2 b3 : Nat) (h : 128 ≤ b0) : 128 ≤ (Lib.decodeN n b0 b1 b2 b3).1 := by
  unfold Lib.decodeN
  rw [if_neg (by omega)]
  repeat' split
  all_goals simp only; omega

theorem idx_ld (s : List UInt8) : ∀ (f pos : Nat), s.length - pos ≤ f → (Lib.idxFuncFrom ndR true ⟨s.toArray⟩ f pos = -1 ↔ (s.drop pos).all ldB = true)
  | 0, pos, h => by
    have : s.drop pos = [] := List.drop_of_length_le (by omega)
    simp [Lib.idxFuncFrom, this]
  | f + 1, pos, h => by
    unfold Lib.idxFuncFrom
    have hsz : (⟨s.toArray⟩ : ByteArray).size = s.length := by simp [ByteArray.size]
    rw [hsz]
    by_cases hp : pos < s.length
    · rw [if_pos hp, List.drop_eq_getElem_cons hp, List.all_cons]
      have hd := Lib.decode_N ⟨s.toArray⟩ pos
      simp only [List.toList_toArray] at hd
      have hg : s.getD pos 0 = s[pos] := by simp [hp]
      rw [hg] at hd
      by_cases hb : s[pos].toNat < 128
      · rw [Lib.decodeN_ascii _ _ _ _ _ hb] at hd
        rw [hd]
        have ih := idx_ld s f (pos + 1) (by omega)
        by_cases hn : ndR s[pos].toNat = true
        · rw [if_pos hn]
          have hl : ldB s[pos] = false := by
            simp only [ndR, Bool.and_eq_true, Bool.or_eq_true, decide_eq_true_eq] at hn
            simp only [ldB, letB, Bool.or_eq_false_iff, Bool.and_eq_false_iff, decide_eq_false_iff_not]
            omega
          rw [hl]
          simp
        · rw [if_neg hn, ih]
          have hl : ldB s[pos] = true := by
            simp only [ndR, Bool.and_eq_true, Bool.or_eq_true, decide_eq_true_eq] at hn
            simp only [ldB, letB, Bool.or_eq_true, Bool.and_eq_true, decide_eq_true_eq]
            omega
          rw [hl]
          simp
      · have h2 := rune_hi (s.length - pos) s[pos].toNat (s.getD (pos + 1) 0).toNat (s.getD (pos + 2) 0).toNat (s.getD (pos + 3) 0).toNat (by omega)
        rw [← hd] at h2
        have hn : ndR (Utf8.decode ⟨s.toArray⟩ pos).1 = true := by
          simp only [ndR, Bool.and_eq_true, Bool.or_eq_true, decide_eq_true_eq]
          omega
        rw [if_pos hn]
        have hl : ldB s[pos] = false := by
          simp only [ldB, letB, Bool.or_eq_false_iff, Bool.and_eq_false_iff, decide_eq_false_iff_not]
          omega
        rw [hl]
        simp
    · have : s.drop pos = [] := List.drop_of_length_le (by omega)
      rw [if_neg hp, this]
      simp

theorem idx_all (s : List UInt8) : decide (0 ≤ Lib.idxFunc ndR true ⟨s.toArray⟩) = !s.all ldB := by
  have h := idx_ld s s.length 0 (by omega)
  have hsz : (⟨s.toArray⟩ : ByteArray).size = s.length := by simp [ByteArray.size]
  have hr := Lib.idxFunc_range ndR true ⟨s.toArray⟩
  unfold Lib.idxFunc at hr ⊢
  rw [hsz] at hr ⊢
  rw [List.drop_zero] at h
  cases ha : s.all ldB with
  | true => rw [h.2 ha]; simp
  | false =>
    have : Lib.idxFuncFrom ndR true ⟨s.toArray⟩ s.length 0 ≠ -1 := fun e => by rw [h.1 e] at ha; cases ha
    rcases hr with hr | hr
    · exact absurd hr this
    · simp [hr.1]

/-- The shelf's numbers, in this program. -/
def renContains : Ren where
  f := fun n => if n = 17 then 48 else if n = 15 then 57 else if n = 20 then 69 else 0
  t := fun n => if n = 0 then 0 else if n = 3 then 3 else if n = 4 then 4 else if n = 9 then 9 else if n = 21 then 21 else if n = 23 then 78 else 0
  g := fun n => 0

theorem laysContains : LaysGw.n17 Tryd.prog renContains where
  mixed := by kernel_rfl
  f15 := by kernel_rfl
  f17 := by kernel_rfl
  f20 := by kernel_rfl
  t0 := by kernel_rfl
  a0 := agg_no (P := Tryd.prog) (t := renContains.t 0) (d := .tuple #[]) (by kernel_rfl) rfl
  z0 := fun w => by kernel_rfl
  v0 := fun w => by kernel_rfl
  i0 := by kernel_rfl
  t3 := by kernel_rfl
  a3 := agg_no (P := Tryd.prog) (t := renContains.t 3) (d := .int .i64) (by kernel_rfl) rfl
  z3 := fun w => by kernel_rfl
  v3 := fun w => by kernel_rfl
  i3 := by kernel_rfl
  t4 := by kernel_rfl
  a4 := agg_no (P := Tryd.prog) (t := renContains.t 4) (d := .bool) (by kernel_rfl) rfl
  z4 := fun w => by kernel_rfl
  v4 := fun w => by kernel_rfl
  i4 := by kernel_rfl
  t9 := by kernel_rfl
  a9 := agg_no (P := Tryd.prog) (t := renContains.t 9) (d := .string) (by kernel_rfl) rfl
  z9 := fun w => by kernel_rfl
  v9 := fun w => by kernel_rfl
  i9 := by kernel_rfl
  t21 := by kernel_rfl
  a21 := agg_no (P := Tryd.prog) (t := renContains.t 21) (d := .int .i32) (by kernel_rfl) rfl
  z21 := fun w => by kernel_rfl
  v21 := fun w => by kernel_rfl
  i21 := by kernel_rfl
  t23 := by kernel_rfl
  a23 := agg_no (P := Tryd.prog) (t := renContains.t 23) (d := .func #[renContains.t 21] #[renContains.t 4] false) (by kernel_rfl) rfl
  z23 := fun w => by kernel_rfl
  v23 := fun w => by kernel_rfl
  i23 := by kernel_rfl

theorem nameFn : Tryd.prog.funcs[49]? = some Tryd.f49 := rfl
theorem nameNt : Tryd.f49.ntmps = 17 := rfl

theorem namePred (w : World) : PredAt Tryd.prog 49 #[] encR ndR w := fun W r _ => by
  unfold FnGives ndR
  have z1 : (r : Int) < 97 ↔ r < 97 := by omega
  have z2 : (122 : Int) < r ↔ 122 < r := by omega
  have z3 : (r : Int) < 48 ↔ r < 48 := by omega
  have z4 : (57 : Int) < r ↔ 57 < r := by omega
  by_cases h1 : r < 97 <;> by_cases h2 : 122 < r <;> by_cases h3 : r < 48 <;> by_cases h4 : 57 < r
  all_goals
    go_enter nameFn, nameNt
    go_wp2
    all_goals first | (exfalso; omega) | (go_ret; exact ⟨by simp [h1, h2, h3, h4], 0, rfl⟩)

/-- What is no turn of what lay, as the engine has it. -/
theorem Post_below {Z : Nat → Prop} {G : List (Option OG)} {FP : Nat → List Nat} {H : Heap} {w w' : World} {v : Value} {r : HV} {Q : HV → Heap → Prop} (hi : HInv Z G FP H w) (hb : Below w.heap.size w w') (hq : Q r H) (hr : ∀ w, RV Z G w r v []) : Post Z G FP H w Q (.returned v) w' :=
  ⟨v, r, H, Z, G, FP, [], rfl, hq, rfl, hi.keep hb.size (fun b hb' => hb.block b (by
    rcases hb' with h | ⟨id, h⟩
    · exact hi.zlt b h
    · exact hi.flt id b h)), hr w', by simp, by simp, by simp, GLe.refl _, ⟨hb.os, hb.tape, hb.output, hb.size, fun b hb' _ => hb.block b hb', fun _ h => h, fun _ h => .inl h, fun id b hb => .inr ⟨id, hb⟩⟩⟩

theorem stringsContains (s : List UInt8) : HFn Tryd.prog 48 [.v (str s), .fn 49 []] (.v (.bool (!s.all ldB))) := by
  refine ⟨enters (fn := Tryd.f48) rfl rfl rfl, fun Z G FP w vals hi ha => ?_⟩
  simp only [RL, RV] at ha
  obtain ⟨y1, ys1, f1, f2, rfl, hf, ⟨_, rfl⟩, y2, ys2, f3, f4, rfl, hf2, ⟨cs, rfl, hcs, _⟩, rfl, _⟩ := ha
  have : cs = #[] := by apply Array.ext'; simpa using hcs
  subst this
  have hc := Any.strings_ContainsFunc laysContains 49 #[] (enters (fn := Tryd.f49) rfl rfl rfl) ndR ⟨s.toArray⟩ w (namePred w)
  refine Calls.mono hc ?_
  rintro e w' ⟨rfl, hb⟩
  rw [idx_all]
  exact Post_below hi hb rfl (fun w => by simp [RV])
end Go.Proofs.YtcpefnjofekibaaDoor
