/- Part T of the engine: rows that hold plain data. -/
import Derived.Test.YtcpefnjofekibaaDoorHiS
import Derived.IntWalk
namespace Go.Proofs.YtcpefnjofekibaaDoor
open Go.RowKit
set_option linter.unusedVariables false
set_option linter.unusedSimpArgs false

theorem bindO_map {α β : Type} {o : Option α} {g : α → β} {f : β → Res} : bindO (o.map g) f = bindO o (fun a => f (g a)) := by cases o <;> rfl

/-- A cell that stands for itself. -/
def isV : HV → Bool
  | .v _ => true
  | .sl _ => true
  | .fp _ _ _ => true
  | _ => false

section
variable {α : Type}

/-- Rows of plain cells, one for each of a list. -/
structure Plain (f : α → List HV) (n : Nat) : Prop where
  len : ∀ a, (f a).length = n
  isv : ∀ a, (f a).all isV = true

variable {f : α → List HV} {n : Nat}

theorem isV_tv {h : HV} (hv : isV h = true) : tv h = true := by cases h <;> simp_all [isV, tv]
theorem isV_nm {h : HV} {m : Nat} (hv : isV h = true) : nm m h = true := by cases h <;> simp_all [isV, nm]
theorem isV_fzo {h : HV} (hv : isV h = true) : fzo h = h := by cases h <;> simp_all [isV, fzo]
theorem isV_fz {h : HV} {k : Nat} {H : Heap} (hv : isV h = true) : fz k H h = h := by
  cases k with
  | zero => unfold fz; exact isV_fzo hv
  | succ k => cases h <;> simp_all [isV, fz, fzo]

theorem tvs_all : ∀ {l : List HV}, l.all isV = true → tvs l = true
  | [], _ => rfl
  | h :: t, hl => by
    simp only [List.all_cons, Bool.and_eq_true] at hl
    simp only [tvs, isV_tv hl.1, tvs_all hl.2, Bool.and_self]
theorem tvs_append : ∀ (a b : List HV), tvs (a ++ b) = (tvs a && tvs b)
  | [], b => by simp [tvs]
  | h :: t, b => by simp only [List.cons_append, tvs, tvs_append t b, Bool.and_assoc]
theorem nmL_all {m : Nat} : ∀ {l : List HV}, l.all isV = true → nmL m l = true
  | [], _ => rfl
  | h :: t, hl => by
    simp only [List.all_cons, Bool.and_eq_true] at hl
    simp only [nmL, isV_nm hl.1, nmL_all hl.2, Bool.and_self]
theorem nmR_append {m : Nat} : ∀ (a b : List (List HV)), nmR m (a ++ b) = (nmR m a && nmR m b)
  | [], b => by simp [nmR]
  | h :: t, b => by simp only [List.cons_append, nmR, nmR_append t b, Bool.and_assoc]
theorem fzL_all {k : Nat} {H : Heap} : ∀ {l : List HV}, l.all isV = true → l.map (fz k H) = l
  | [], _ => rfl
  | h :: t, hl => by
    simp only [List.all_cons, Bool.and_eq_true] at hl
    simp only [List.map_cons, isV_fz hl.1, fzL_all hl.2]
theorem fzoL_all : ∀ {l : List HV}, l.all isV = true → fzoL l = l
  | [], _ => rfl
  | h :: t, hl => by
    simp only [List.all_cons, Bool.and_eq_true] at hl
    simp only [fzoL, isV_fzo hl.1, fzoL_all hl.2]

theorem Plain.rowsLen (h : Plain f n) (l : List α) : RowsLen (l.map f) n = True := by
  simp only [RowsLen, eq_iff_iff, iff_true]
  intro r hr
  obtain ⟨a, _, rfl⟩ := List.mem_map.1 hr
  exact h.len a
theorem Plain.tvs (h : Plain f n) : ∀ l : List α, Go.Proofs.YtcpefnjofekibaaDoor.tvs (l.map f).flatten = true
  | [] => rfl
  | a :: l => by
    simp only [List.map_cons, List.flatten_cons, tvs_append, tvs_all (h.isv a), h.tvs l, Bool.and_self]
theorem Plain.nmR {m : Nat} (h : Plain f n) : ∀ l : List α, Go.Proofs.YtcpefnjofekibaaDoor.nmR m (l.map f) = true
  | [] => rfl
  | a :: l => by simp only [List.map_cons, Go.Proofs.YtcpefnjofekibaaDoor.nmR, nmL_all (h.isv a), h.nmR l, Bool.and_self]
theorem Plain.fz {k : Nat} {H : Heap} (h : Plain f n) (l : List α) : (l.map f).map (fun r => r.map (Go.Proofs.YtcpefnjofekibaaDoor.fz k H)) = l.map f := by
  rw [List.map_map]
  congr 1
  funext a
  exact fzL_all (h.isv a)
theorem Plain.fzoR (h : Plain f n) (l : List α) : Go.Proofs.YtcpefnjofekibaaDoor.fzoR (l.map f) = l.map f := by
  rw [fzoR_get, List.map_map]
  congr 1
  funext a
  exact fzoL_all (h.isv a)
end

/-! ### arguments, as the callee sees them -/
section
variable {H : Heap} {k : Nat}
theorem fz_v {x : Value} : fz (k + 1) H (.v x) = .v x := rfl
theorem fz_sl {rows : List (List HV)} : fz (k + 1) H (.sl rows) = .sl rows := rfl
theorem fz_fp {rows : List (List HV)} {i o : Nat} : fz (k + 1) H (.fp rows i o) = .fp rows i o := rfl
theorem fz_any : fz (k + 1) H .any = .any := rfl
theorem fz_ag {cs : List HV} : fz (k + 1) H (.ag cs) = .ag (cs.map (fz k H)) := rfl
theorem fz_fn {f : Nat} {cs : List HV} : fz (k + 1) H (.fn f cs) = .fn f (cs.map (fz k H)) := rfl
theorem fz_ic {t : TypeId} {x : HV} : fz (k + 1) H (.ic t x) = .ic t (fz k H x) := rfl
theorem fz_hd {id off len : Nat} : fz (k + 1) H (.hd id off len) = (match getO H id with
    | some ob => if off + len = ob.rows.length then .sl ((ob.rows.drop off).map fun r => r.map (fz k H)) else .any
    | none => .any) := by
  simp only [fz, getO]
  cases h : H[id]? with
  | none => rfl
  | some o' => cases o' <;> rfl
theorem fz_pt {id m r o : Nat} : fz (k + 1) H (.pt id m r o) = (match getO H id with
    | some ob => if m = ob.rows.length ∧ ob.rows.length ≠ 0 then .fp (ob.rows.map fun r => r.map (fz k H)) r o else .any
    | none => .any) := by
  simp only [fz, getO]
  cases h : H[id]? with
  | none => rfl
  | some o' => cases o' <;> rfl
end

/-! ### texts -/
def srow (s : List UInt8) : List HV := [.v (str s)]
def strs (l : List (List UInt8)) : List (List HV) := l.map srow
theorem srow_plain : Plain srow 1 := ⟨fun _ => rfl, fun _ => rfl⟩
theorem strs_nil : strs [] = [] := rfl
theorem strs_snoc {l : List (List UInt8)} {s : List UInt8} : strs l ++ [[.v (str s)]] = strs (l ++ [s]) := by simp [strs, srow]
theorem strs_one {s : List UInt8} : [[HV.v (str s)]] = strs [s] := rfl
theorem strs_append {a b : List (List UInt8)} : strs a ++ strs b = strs (a ++ b) := by simp [strs]
theorem strs_length {l : List (List UInt8)} : (strs l).length = l.length := by simp [strs]
theorem strs_get {l : List (List UInt8)} {i : Nat} : (strs l)[i]? = l[i]?.map srow := by simp [strs]
theorem strs_drop {l : List (List UInt8)} {i : Nat} : (strs l).drop i = strs (l.drop i) := by simp [strs, List.map_drop]
theorem strs_take {l : List (List UInt8)} {i : Nat} : (strs l).take i = strs (l.take i) := by simp [strs, List.map_take]
theorem strs_rowsLen {l : List (List UInt8)} : RowsLen (strs l) 1 = True := srow_plain.rowsLen l
theorem strs_tvs {l : List (List UInt8)} : tvs (strs l).flatten = true := srow_plain.tvs l
theorem strs_nmR {l : List (List UInt8)} {m : Nat} : nmR m (strs l) = true := srow_plain.nmR l
theorem strs_fz {l : List (List UInt8)} {k : Nat} {H : Heap} : (strs l).map (fun r => r.map (fz k H)) = strs l := srow_plain.fz l
theorem strs_fzoR {l : List (List UInt8)} : fzoR (strs l) = strs l := srow_plain.fzoR l
theorem strs_nzR : ∀ {l : List (List UInt8)}, nzR (strs l) = true
  | [] => rfl
  | a :: l => by
    have : nzR (strs l) = true := strs_nzR
    simp only [strs, List.map_cons, nzR, srow, nzL, nz, Bool.and_self, Bool.true_and] at this ⊢
    exact this

/-- A list of texts, owned, and lent. -/
def owStrs (l : List (List UInt8)) : HV := .ow 9 1 (strs l)

/-! ### whole numbers -/
theorem w64 {x : Int} (h1 : -9223372036854775808 ≤ x) (h2 : x < 9223372036854775808) : IntKind.i64.wrap x = x := IntWalk.i64_in x ⟨h1, by omega⟩
theorem w8 {x : Int} (h1 : 0 ≤ x) (h2 : x < 256) : IntKind.u8.wrap x = x := IntWalk.u8_in x ⟨h1, by omega⟩
theorem w32 {x : Int} (h1 : -2147483648 ≤ x) (h2 : x < 2147483648) : IntKind.i32.wrap x = x := IntWalk.i32_in x ⟨h1, by omega⟩
theorem c1_str {a : List UInt8} : c1 (.v (str a)) = true := rfl
theorem byte_of {b : UInt8} : UInt8.ofNat (Int.toNat (b.toNat : Int)) = b := by simp
theorem bytesOf_nil : bytesOf [] = some [] := rfl
theorem bytesOf_cons {z : Int} {t : List (List HV)} : bytesOf ([.v (.int .u8 z)] :: t) = (bytesOf t).map (UInt8.ofNat z.toNat :: ·) := rfl

theorem c1_int {i : IntKind} {z : Int} : c1 (.v (.int i z)) = true := rfl
theorem c1_bool {b : Bool} : c1 (.v (.bool b)) = true := rfl
theorem c1_nilslice : c1 (.v (.slice none 0 0)) = true := rfl
theorem c1_nilIface : c1 (.v .nilIface) = true := rfl
theorem c1_sl {rows : List (List HV)} : c1 (.sl rows) = true := rfl
theorem c1_hd {i o n : Nat} : c1 (.hd i o n) = true := rfl
theorem c1_pt {i n r o : Nat} : c1 (.pt i n r o) = true := rfl
theorem c1_fp {rows : List (List HV)} {i o : Nat} : c1 (.fp rows i o) = true := rfl
theorem c1_fn {f : Nat} {cs : List HV} : c1 (.fn f cs) = true := rfl
theorem c1_ic {t : TypeId} {x : HV} : c1 (.ic t x) = true := rfl
theorem nonneg {n : Nat} : (0 ≤ (n : Int)) = True := by simp

theorem nz_owStrs {l : List (List UInt8)} : nz (owStrs l) = true := by simp only [owStrs, nz, strs_nzR]

theorem fzo_owStrs {l : List (List UInt8)} : fzo (owStrs l) = .sl (strs l) := by simp only [owStrs, fzo, strs_fzoR]
attribute [go_sem] fzo_owStrs
attribute [go_sem] List.all_cons List.all_nil c1_str c1_int c1_bool c1_nilslice c1_nilIface c1_sl c1_hd c1_pt c1_fp c1_fn c1_ic nonneg List.flatten_cons List.flatten_nil List.append_nil List.length_append List.take_length Int.le_refl Nat.le_refl Bool.and_true Bool.true_and Bool.and_self bytesOf_nil bytesOf_cons
attribute [go_sem] bindO_map fz_v fz_sl fz_fp fz_any fz_ag fz_fn fz_ic fz_hd fz_pt strs_nil strs_snoc strs_append strs_length strs_get strs_drop strs_take strs_rowsLen strs_tvs strs_nmR strs_fz strs_fzoR strs_nzR srow
end Go.Proofs.YtcpefnjofekibaaDoor
