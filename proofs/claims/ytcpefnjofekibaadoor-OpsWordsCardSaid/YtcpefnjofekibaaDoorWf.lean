/- Word: strings.Cut, by the library's shelf. -/
import Derived.Test.YtcpefnjofekibaaDoorWe
import Derived.Shelf.Strings.Cut
import Derived.KernelRfl
namespace Go.Proofs.YtcpefnjofekibaaDoor
open Go.RowKit Go.Shelf
set_option linter.unusedVariables false
set_option maxRecDepth 8000
set_option linter.unusedSimpArgs false

/-- The shelf's numbers, in this program. -/
def renCut : Ren where
  f := fun n => if n = 145 then 29 else if n = 217 then 60 else if n = 219 then 54 else if n = 220 then 43 else if n = 224 then 62 else if n = 225 then 61 else if n = 266 then 71 else if n = 267 then 63 else if n = 314 then 72 else 0
  t := fun n => if n = 3 then 3 else if n = 4 then 4 else if n = 5 then 5 else if n = 9 then 9 else if n = 46 then 88 else if n = 51 then 96 else if n = 59 then 50 else if n = 146 then 97 else 0
  g := fun n => if n = 1 then 0 else 0

theorem agg_no {P : Program} {t : TypeId} {d : TypeDesc} (h : P.underlying t = some d) (hd : (match d with | .struct _ | .array _ _ => true | _ => false) = false) : ∀ w, (isAgg t).run P w = .ok false w := by
  intro w
  unfold isAgg
  simp only [Sem.run_bind, run_underlying h, Result.andThen_ok]
  cases d <;> simp_all

theorem laysCut : Lays.n145 Tryd.prog renCut where
  mixed := by kernel_rfl
  f145 := by kernel_rfl
  f217 := by kernel_rfl
  f219 := by kernel_rfl
  f220 := by kernel_rfl
  f224 := by kernel_rfl
  f225 := by kernel_rfl
  f266 := by kernel_rfl
  f267 := by kernel_rfl
  f314 := by kernel_rfl
  t3 := by kernel_rfl
  a3 := agg_no (P := Tryd.prog) (t := renCut.t 3) (d := .int .i64) (by kernel_rfl) rfl
  z3 := fun w => by kernel_rfl
  v3 := fun w => by kernel_rfl
  t4 := by kernel_rfl
  a4 := agg_no (P := Tryd.prog) (t := renCut.t 4) (d := .bool) (by kernel_rfl) rfl
  z4 := fun w => by kernel_rfl
  v4 := fun w => by kernel_rfl
  t5 := by kernel_rfl
  a5 := agg_no (P := Tryd.prog) (t := renCut.t 5) (d := .int .u8) (by kernel_rfl) rfl
  z5 := fun w => by kernel_rfl
  v5 := fun w => by kernel_rfl
  t9 := by kernel_rfl
  a9 := agg_no (P := Tryd.prog) (t := renCut.t 9) (d := .string) (by kernel_rfl) rfl
  z9 := fun w => by kernel_rfl
  v9 := fun w => by kernel_rfl
  t46 := by kernel_rfl
  a46 := agg_no (P := Tryd.prog) (t := renCut.t 46) (d := .int .u64) (by kernel_rfl) rfl
  z46 := fun w => by kernel_rfl
  v46 := fun w => by kernel_rfl
  t51 := by kernel_rfl
  a51 := agg_no (P := Tryd.prog) (t := renCut.t 51) (d := .int .u32) (by kernel_rfl) rfl
  z51 := fun w => by kernel_rfl
  v51 := fun w => by kernel_rfl
  t59 := by kernel_rfl
  a59 := agg_no (P := Tryd.prog) (t := renCut.t 59) (d := .tuple #[renCut.t 9, renCut.t 9, renCut.t 4]) (by kernel_rfl) rfl
  z59 := fun w => by kernel_rfl
  v59 := fun w => by kernel_rfl
  t146 := by kernel_rfl
  a146 := agg_no (P := Tryd.prog) (t := renCut.t 146) (d := .tuple #[renCut.t 51, renCut.t 51]) (by kernel_rfl) rfl
  z146 := fun w => by kernel_rfl
  v146 := fun w => by kernel_rfl
  g1 := by kernel_rfl

theorem enters {P : Program} {f : FuncId} {fn : Func} {c : Code} (hf : P.funcs[f]? = some fn) (hb : fn.body = some c) (hn : (fn.name == "runtime.NumGoroutine") = false) (vals : Array Value) (w : World) : (callFunc f vals).run P w = .ok (.enter f vals) w := by
  have hne : ¬ fn.name = "runtime.NumGoroutine" := by simpa using hn
  simp [callFunc, hf, hne, hb]

theorem stringsCut (s sep : List UInt8) (hs : s.length < 4294967281) : HFn Tryd.prog 29 [.v (str s), .v (str sep)] (.tu [.v (str (Lib.cut s sep).1), .v (str (Lib.cut s sep).2.1), .v (.bool (Lib.cut s sep).2.2)]) := by
  refine ⟨enters (fn := Tryd.f29) rfl rfl rfl, fun Z G FP w vals hi ha => ?_⟩
  simp only [RL, RV] at ha
  obtain ⟨y1, ys1, f1, f2, rfl, hf, ⟨_, rfl⟩, y2, ys2, f3, f4, rfl, hf2, ⟨_, rfl⟩, rfl, _⟩ := ha
  obtain ⟨_, m, hm⟩ := hi.glob.int 0 rfl
  have hsz : (⟨s.toArray⟩ : ByteArray).size < 4294967281 := by simpa [ByteArray.size] using hs
  refine Calls.mono (Any.strings_Cut laysCut ⟨s.toArray⟩ ⟨sep.toArray⟩ m w hsz hm) ?_
  rintro e w' ⟨rfl, n, rfl⟩
  have hh : (w.drewN n).heap = w.heap := rfl
  refine ⟨_, _, [], Z, G, FP, [], rfl, rfl, rfl, hi.keep (by rw [hh]; exact Nat.le_refl _) (fun _ _ => by rw [hh]), ?_, by simp, by simp, by simp, GLe.refl _, ⟨rfl, rfl, rfl, by rw [hh]; exact Nat.le_refl _, fun _ _ _ => by rw [hh], fun _ h => h, fun _ h => .inl h, fun id b hb => .inr ⟨id, hb⟩⟩⟩
  simp only [RV, RL]
  refine ⟨_, rfl, _, _, [], [], rfl, rfl, ⟨rfl, ?_⟩, _, _, [], [], rfl, rfl, ⟨rfl, ?_⟩, _, _, [], [], rfl, rfl, ⟨rfl, ?_⟩, rfl, rfl⟩ <;> simp [str]
end Go.Proofs.YtcpefnjofekibaaDoor
