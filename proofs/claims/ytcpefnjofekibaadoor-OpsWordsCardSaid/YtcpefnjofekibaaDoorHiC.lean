/- Part C of the engine: rows of cells as flat lists; how one object is turned, and a new one is laid. -/
import Derived.Test.YtcpefnjofekibaaDoorHiB
import Derived.Laws.AppendOwn
namespace Go.Proofs.YtcpefnjofekibaaDoor
open Go.RowKit
set_option linter.unusedVariables false

section lists
variable {Z : Nat → Prop} {G : List (Option OG)} {w : World}

theorem RL_append : ∀ (l1 l2 : List HV) (ys : List Value) (fp : List Nat), RL Z G w (l1 ++ l2) ys fp ↔ ∃ y1 y2 f1 f2, ys = y1 ++ y2 ∧ fp = f1 ++ f2 ∧ RL Z G w l1 y1 f1 ∧ RL Z G w l2 y2 f2
  | [], l2, ys, fp => by
    simp only [List.nil_append, RL]
    constructor
    · intro h; exact ⟨[], ys, [], fp, rfl, rfl, ⟨rfl, rfl⟩, h⟩
    · rintro ⟨y1, y2, f1, f2, rfl, rfl, ⟨rfl, rfl⟩, h⟩; exact h
  | h :: t, l2, ys, fp => by
    simp only [List.cons_append, RL]
    constructor
    · rintro ⟨y, ys', f1, f2, rfl, rfl, h1, h2⟩
      obtain ⟨y1, y2, g1, g2, rfl, rfl, h3, h4⟩ := (RL_append t l2 ys' f2).1 h2
      exact ⟨y :: y1, y2, f1 ++ g1, g2, rfl, by simp, ⟨y, y1, f1, g1, rfl, rfl, h1, h3⟩, h4⟩
    · rintro ⟨y1, y2, f1, f2, rfl, rfl, ⟨y, y1', g1, g2, rfl, rfl, h1, h3⟩, h4⟩
      exact ⟨y, y1' ++ y2, g1, g2 ++ f2, rfl, by simp, h1, (RL_append t l2 _ _).2 ⟨y1', y2, g2, f2, rfl, rfl, h3, h4⟩⟩

theorem RL_length : ∀ (l : List HV) (ys : List Value) (fp : List Nat), RL Z G w l ys fp → ys.length = l.length
  | [], ys, fp, h => by simp only [RL] at h; simp [h.1]
  | h :: t, ys, fp, hr => by
    simp only [RL] at hr
    obtain ⟨y, ys', f1, f2, rfl, rfl, h1, h2⟩ := hr
    simp [RL_length t ys' f2 h2]

theorem RL_get : ∀ (l : List HV) (ys : List Value) (fp : List Nat), RL Z G w l ys fp → ∀ (i : Nat) (h : HV), l[i]? = some h → ∃ y f, ys[i]? = some y ∧ RV Z G w h y f ∧ f.Sublist fp
  | [], ys, fp, _, i, h, hi => by simp at hi
  | h :: t, ys, fp, hr, i, x, hi => by
    simp only [RL] at hr
    obtain ⟨y, ys', f1, f2, rfl, rfl, h1, h2⟩ := hr
    cases i with
    | zero => simp at hi; subst hi; exact ⟨y, f1, rfl, h1, List.sublist_append_left _ _⟩
    | succ i =>
      obtain ⟨z, f, hz, hv, hs⟩ := RL_get t ys' f2 h2 i x (by simpa using hi)
      exact ⟨z, f, by simpa using hz, hv, hs.trans (List.sublist_append_right _ _)⟩

/-- A list of cells from one on. -/
theorem RC_iff {b : Nat} {cells : Array Value} {e : TypeId} {fz : Nat × Nat} (hb : w.heap[b]? = some (.cells cells e fz)) : ∀ (l : List HV) (k : Nat) (fp : List Nat), k ≤ cells.size →
    (RC Z G w l b k fp ↔ (k + l.length ≤ cells.size ∧ RL Z G w l ((cells.toList.drop k).take l.length) fp ∧ ∀ y ∈ (cells.toList.drop k).take l.length, y.oneCell' = true))
  | [], k, fp, hk => by simp [RC, RL, hk]
  | h :: t, k, fp, hk => by
    have hc : w.cell? ⟨b, k, none⟩ = cells[k]? := cell_of_row w b k cells e fz hb
    simp only [RC, hc]
    constructor
    · rintro ⟨y, f1, f2, rfl, hy, h1, h2, h3⟩
      have hlt : k < cells.size := (Array.getElem?_eq_some_iff.1 hy).1
      obtain ⟨h4, h5, h6⟩ := (RC_iff hb t (k + 1) f2 hlt).1 h3
      have hd : cells.toList.drop k = y :: cells.toList.drop (k + 1) := by
        rw [List.drop_eq_getElem_cons (by simpa using hlt)]
        congr 1
        have := (Array.getElem?_eq_some_iff.1 hy).2
        simpa using this
      refine ⟨by simp; omega, ?_, ?_⟩
      · rw [hd]; simp only [List.length_cons, List.take_succ_cons, RL]; exact ⟨y, _, f1, f2, rfl, rfl, h2, h5⟩
      · rw [hd]; simp only [List.length_cons, List.take_succ_cons, List.mem_cons]; rintro z (rfl | hz)
        · exact h1
        · exact h6 z hz
    · rintro ⟨h4, h5, h6⟩
      simp only [List.length_cons] at h4 h5 h6
      have hlt : k < cells.size := by omega
      have hd : cells.toList.drop k = cells[k] :: cells.toList.drop (k + 1) := by
        rw [List.drop_eq_getElem_cons (by simpa using hlt)]
        simp
      rw [hd] at h5 h6
      simp only [List.take_succ_cons, RL] at h5
      obtain ⟨y, ys', f1, f2, he, rfl, h7, h8⟩ := h5
      simp only [List.cons.injEq] at he
      obtain ⟨rfl, rfl⟩ := he
      refine ⟨_, f1, f2, rfl, by simp [hlt], h6 _ (by simp), h7, (RC_iff hb t (k + 1) f2 hlt).2 ⟨by omega, h8, fun z hz => h6 z (by simp only [List.take_succ_cons, List.mem_cons]; exact .inr hz)⟩⟩

theorem RR_iff {b : Nat} {cells : Array Value} {e : TypeId} {fz : Nat × Nat} (hb : w.heap[b]? = some (.cells cells e fz)) : ∀ (l : List (List HV)) (k : Nat) (fp : List Nat), k ≤ cells.size →
    (RR Z G w l b k fp ↔ (k + l.flatten.length ≤ cells.size ∧ RL Z G w l.flatten ((cells.toList.drop k).take l.flatten.length) fp ∧ ∀ y ∈ (cells.toList.drop k).take l.flatten.length, y.oneCell' = true))
  | [], k, fp, hk => by simp [RR, RL, hk]
  | r :: t, k, fp, hk => by
    simp only [RR]
    constructor
    · rintro ⟨f1, f2, rfl, h1, h2⟩
      obtain ⟨h3, h4, h5⟩ := (RC_iff hb r k f1 hk).1 h1
      obtain ⟨h6, h7, h8⟩ := (RR_iff hb t (k + r.length) f2 h3).1 h2
      have e : (cells.toList.drop k).take (r ++ t.flatten).length = (cells.toList.drop k).take r.length ++ (cells.toList.drop (k + r.length)).take t.flatten.length := by
        rw [List.length_append, List.take_add, List.drop_drop]
      simp only [List.flatten_cons]
      refine ⟨by simp only [List.length_append]; omega, ?_, ?_⟩
      · rw [e]; exact (RL_append _ _ _ _).2 ⟨_, _, f1, f2, rfl, rfl, h4, h7⟩
      · rw [e]; intro y hy; rcases List.mem_append.1 hy with hy | hy
        · exact h5 y hy
        · exact h8 y hy
    · rintro ⟨h6, h7, h8⟩
      simp only [List.flatten_cons] at h6 h7 h8
      have e : (cells.toList.drop k).take (r ++ t.flatten).length = (cells.toList.drop k).take r.length ++ (cells.toList.drop (k + r.length)).take t.flatten.length := by
        rw [List.length_append, List.take_add, List.drop_drop]
      rw [List.length_append] at h6
      rw [e] at h7 h8
      obtain ⟨y1, y2, f1, f2, he, rfl, h9, h10⟩ := (RL_append _ _ _ _).1 h7
      have hl1 := RL_length _ _ _ h9
      have hl0 : ((cells.toList.drop k).take r.length).length = r.length := by simp; omega
      obtain ⟨rfl, rfl⟩ := List.append_inj he (by rw [hl0, hl1])
      exact ⟨f1, f2, rfl, (RC_iff hb r k f1 hk).2 ⟨by omega, h9, fun z hz => h8 z (List.mem_append_left _ hz)⟩, (RR_iff hb t (k + r.length) f2 (by omega)).2 ⟨by omega, h10, fun z hz => h8 z (List.mem_append_right _ hz)⟩⟩

mutual
/-- Nothing owned in it: it may lie at two places. -/
def tv : HV → Bool
  | .ow .. => false
  | .bx .. => false
  | .om .. => false
  | .ag cs => tvs cs
  | .tu cs => tvs cs
  | .fn _ cs => tvs cs
  | _ => true
def tvs : List HV → Bool
  | [] => true
  | h :: t => tv h && tvs t
end

mutual
theorem RV_tv : ∀ (h : HV) (y : Value) (fp : List Nat), tv h = true → RV Z G w h y fp → fp = []
  | .any, y, fp, _, h => by simpa only [RV] using h
  | .v x, y, fp, _, h => by simp only [RV] at h; exact h.1
  | .sl rows, y, fp, _, h => by simp only [RV] at h; exact h.1
  | .ow .., y, fp, h, _ => by simp [tv] at h
  | .hd .., y, fp, _, h => by simp only [RV] at h; exact h.1
  | .pt .., y, fp, _, h => by simp only [RV] at h; exact h.1
  | .fp .., y, fp, _, h => by simp only [RV] at h; exact h.1
  | .ag cs, y, fp, ht, h => by simp only [RV] at h; obtain ⟨ys, _, h⟩ := h; exact RL_tvs cs _ fp (by simpa [tv] using ht) h
  | .tu cs, y, fp, ht, h => by simp only [RV] at h; obtain ⟨ys, _, h⟩ := h; exact RL_tvs cs _ fp (by simpa [tv] using ht) h
  | .fn f cs, y, fp, ht, h => by simp only [RV] at h; obtain ⟨ys, _, h⟩ := h; exact RL_tvs cs _ fp (by simpa [tv] using ht) h
  | .bx .., y, fp, h, _ => by simp [tv] at h
  | .ic t x, y, fp, _, h => by simp only [RV] at h; exact h.1
  | .ob _, y, fp, _, h => by simp only [RV] at h
  | .mp _, y, fp, _, h => by simp only [RV] at h; exact h.1
  | .om .., y, fp, h, _ => by simp [tv] at h
  | .yl _, y, fp, _, h => by simp only [RV] at h; exact h.1
theorem RL_tvs : ∀ (l : List HV) (ys : List Value) (fp : List Nat), tvs l = true → RL Z G w l ys fp → fp = []
  | [], ys, fp, _, h => by simp only [RL] at h; exact h.2
  | h :: t, ys, fp, ht, hr => by
    simp only [tvs, Bool.and_eq_true] at ht
    simp only [RL] at hr
    obtain ⟨y, ys', f1, f2, rfl, rfl, h1, h2⟩ := hr
    rw [RV_tv h y f1 ht.1 h1, RL_tvs t ys' f2 ht.2 h2]; rfl
end

theorem RL_split : ∀ (l : List HV) (ys : List Value) (fp : List Nat) (o : Nat), RL Z G w l ys fp → ∃ f1 f2, fp = f1 ++ f2 ∧ RL Z G w (l.take o) (ys.take o) f1 ∧ RL Z G w (l.drop o) (ys.drop o) f2
  | l, ys, fp, 0, h => ⟨[], fp, rfl, by simp [RL], by simpa using h⟩
  | [], ys, fp, o + 1, h => by
    simp only [RL] at h
    obtain ⟨rfl, rfl⟩ := h
    exact ⟨[], [], rfl, by simp [RL], by simp [RL]⟩
  | h :: t, ys, fp, o + 1, hr => by
    simp only [RL] at hr
    obtain ⟨y, ys', f1, f2, rfl, rfl, h1, h2⟩ := hr
    obtain ⟨g1, g2, rfl, h3, h4⟩ := RL_split t ys' f2 o h2
    refine ⟨f1 ++ g1, g2, by simp, ?_, by simpa using h4⟩
    simp only [List.take_succ_cons, RL]
    exact ⟨y, _, f1, g1, rfl, rfl, h1, h3⟩

/-- A part of a list, of which nothing is owned. -/
theorem RL_seg {l : List HV} {ys : List Value} {fp : List Nat} (h : RL Z G w l ys fp) (o n : Nat) (ht : tvs ((l.drop o).take n) = true) : RL Z G w ((l.drop o).take n) ((ys.drop o).take n) [] := by
  obtain ⟨f1, f2, rfl, _, h2⟩ := RL_split l ys fp o h
  obtain ⟨f3, f4, rfl, h3, _⟩ := RL_split _ _ f2 n h2
  have : f3 = [] := RL_tvs _ _ _ ht h3
  subst this
  exact h3

/-! ### rows of one length -/
theorem flat_len {sz : Nat} : ∀ (rows : List (List HV)), (∀ r ∈ rows, r.length = sz) → rows.flatten.length = rows.length * sz
  | [], _ => by simp
  | r :: t, h => by
    simp only [List.flatten_cons, List.length_append, List.length_cons]
    rw [flat_len t (fun x hx => h x (by simp [hx])), h r (by simp), Nat.add_mul]
    omega

theorem flat_take {sz : Nat} : ∀ (rows : List (List HV)) (i : Nat), (∀ r ∈ rows, r.length = sz) → rows.flatten.take (i * sz) = (rows.take i).flatten
  | [], i, _ => by simp
  | r :: t, 0, h => by simp
  | r :: t, i + 1, h => by
    simp only [List.flatten_cons, List.take_succ_cons]
    rw [← flat_take t i (fun x hx => h x (by simp [hx]))]
    have := h r (by simp)
    rw [List.take_append, this, List.take_of_length_le (by rw [this, Nat.add_mul]; omega)]
    congr 2
    rw [Nat.add_mul]; omega

theorem flat_drop {sz : Nat} : ∀ (rows : List (List HV)) (i : Nat), (∀ r ∈ rows, r.length = sz) → rows.flatten.drop (i * sz) = (rows.drop i).flatten
  | [], i, _ => by simp
  | r :: t, 0, h => by simp
  | r :: t, i + 1, h => by
    simp only [List.flatten_cons, List.drop_succ_cons]
    rw [← flat_drop t i (fun x hx => h x (by simp [hx]))]
    have := h r (by simp)
    rw [List.drop_append, this, List.drop_of_length_le (by rw [this, Nat.add_mul]; omega)]
    simp only [List.nil_append]
    congr 1
    rw [Nat.add_mul]; omega

theorem flat_row {sz : Nat} (rows : List (List HV)) (i : Nat) (row : List HV) (h : ∀ r ∈ rows, r.length = sz) (hi : rows[i]? = some row) : ∀ o n, o + n ≤ sz → (rows.flatten.drop (i * sz + o)).take n = (row.drop o).take n := by
  intro o n hon
  rw [← List.drop_drop, flat_drop rows i h]
  have hlt : i < rows.length := (List.getElem?_eq_some_iff.1 hi).1
  have hr : rows[i] = row := (List.getElem?_eq_some_iff.1 hi).2
  rw [List.drop_eq_getElem_cons hlt, hr, List.flatten_cons]
  have hl : row.length = sz := h row (hr ▸ List.getElem_mem hlt)
  rw [List.drop_append_of_le_length (by omega), List.take_append_of_le_length (by simp; omega)]

theorem flat_set {sz : Nat} (rows : List (List HV)) (i : Nat) (row cs : List HV) (o : Nat) (h : ∀ r ∈ rows, r.length = sz) (hi : rows[i]? = some row) (ho : o + cs.length ≤ sz) :
    (rows.set i (row.take o ++ cs ++ row.drop (o + cs.length))).flatten = rows.flatten.take (i * sz + o) ++ cs ++ rows.flatten.drop (i * sz + o + cs.length) := by
  have hlt : i < rows.length := (List.getElem?_eq_some_iff.1 hi).1
  have hr : rows[i] = row := (List.getElem?_eq_some_iff.1 hi).2
  have hl : row.length = sz := h row (hr ▸ List.getElem_mem hlt)
  have e1 : rows.flatten.take (i * sz + o) = (rows.take i).flatten ++ row.take o := by
    rw [List.take_add, flat_take rows i h, flat_drop rows i h, List.drop_eq_getElem_cons hlt, hr, List.flatten_cons, List.take_append_of_le_length (by omega)]
  have e2 : rows.flatten.drop (i * sz + o + cs.length) = row.drop (o + cs.length) ++ (rows.drop (i + 1)).flatten := by
    rw [Nat.add_assoc, ← List.drop_drop, flat_drop rows i h, List.drop_eq_getElem_cons hlt, hr, List.flatten_cons, List.drop_append_of_le_length (by omega)]
  rw [e1, e2, List.set_eq_take_append_cons_drop, if_pos hlt]
  simp [List.append_assoc]
end lists
end Go.Proofs.YtcpefnjofekibaaDoor
