/- Part Cs of the engine: more rows. Built after part Cr. -/
import Derived.Test.YtcpefnjofekibaaDoorHiCr
namespace Go.Proofs.YtcpefnjofekibaaDoor
open Go.RowKit
set_option linter.unusedVariables false
set_option linter.unusedSimpArgs false

section
variable {P : Program} {H : Heap} {k : List Item → KS} {all l : List Oper} {d : Option Nat} {r : List Item} {T : Nat → HV}
theorem exRq_sadd {t : TypeId} {c : Bool} {a b : List UInt8} : exRq k (bindO (binRes P .add t c (.v (str a)) (.v (str b))) fun v => rv H True (.v v)) all d l r T H = (a.length + b.length ≤ 9223372036854775807 ∧ k (.quiet all l :: r) (updO T d (.v (str (a ++ b)))) H) := by
  have e1 : (⟨a.toArray⟩ : ByteArray).size = a.length := by simp [ByteArray.size]
  have e2 : (⟨b.toArray⟩ : ByteArray).size = b.length := by simp [ByteArray.size]
  have e3 : (⟨a.toArray⟩ : ByteArray) ++ (⟨b.toArray⟩ : ByteArray) = ⟨(a ++ b).toArray⟩ := by
    apply ByteArray.ext
    apply Array.ext'
    simp [ByteArray.data_append]
  have e4 : binRes P .add t c (.v (str a)) (.v (str b)) = if a.length + b.length ≤ 9223372036854775807 then some (str (a ++ b)) else none := by
    show (if (⟨a.toArray⟩ : ByteArray).size + (⟨b.toArray⟩ : ByteArray).size ≤ 9223372036854775807 then some (Value.string ((⟨a.toArray⟩ : ByteArray) ++ (⟨b.toArray⟩ : ByteArray))) else none) = _
    rw [e1, e2, e3]; rfl
  rw [e4]
  by_cases h : a.length + b.length ≤ 9223372036854775807
  · simp only [h, if_true, bindO_some, true_and]
    show (True ∧ _) = _
    simp
  · simp only [h, if_false, bindO_none, false_and]
    rfl
end
attribute [go_sem] exRq_sadd
end Go.Proofs.YtcpefnjofekibaaDoor
