/- The document's Numbers, at two readings of one list. -/
import Derived.Test.YtkiijbbcfbkecaaF3
import Derived.Deep.QuietTactic
import Derived.BigQuiet
namespace Go.Proofs.Ytkiijbbcfbkecaa
open Go.RowKit
set_option linter.unusedVariables false

def ivs (l : List Int) : List Value := l.map fun n => .int .i64 n
set_option maxRecDepth 100000 in
set_option maxHeartbeats 1000000 in
theorem numbers_eq (A A' : Option Addr) (c c' : Nat) (l : List Int) (w : World) {B B' : Nat} (h : Rd w B A l.length (ivs l)) (h' : Rd w B' A' l.length (ivs l)) (hn : l.length ≤ 1000) :
    Calls Try.prog 26 #[.slice A l.length c, .slice A' l.length c'] w fun e w' => e = .returned (.bool true) ∧ Below w.heap.size w w' := by
  have t1 : ((l.length : Int) != (l.length : Int)) = false := by simp
  have H := Lib.hid h
  have H' := Lib.hid h'
  clear h h'
  go_enter Try.func26, Try.ntmps26
  go_wp2
  go_loopw [5] (fun i wr => ∃ j m : Nat, j ≤ l.length ∧ i = .int .i64 j ∧ wr = w.drewN m) (fun i _ => l.length - (intOf i).toNat)
  case atStart => exact ⟨0, 0, Nat.zero_le _, rfl, rfl⟩
  case round =>
    obtain ⟨j, m, hj, rfl, rfl⟩ := hrel
    by_cases hlt : j < l.length
    · obtain ⟨ad, u, rfl, hb, hu, hc⟩ := H.out.at_ hlt
      obtain ⟨ad', u', rfl, hb', hu', hc'⟩ := H'.out.at_ hlt
      rw [hu] at hu'
      injection hu' with hu'
      subst hu'
      have hx : l[j]? = some l[j] := List.getElem?_eq_getElem hlt
      have e : u = .int .i64 l[j] := by
        have : (ivs l)[j]? = some (.int .i64 l[j]) := by simp [ivs, hx]
        rw [this] at hu
        injection hu with hu
        exact hu.symm
      subst e
      generalize l[j] = n at hc hc'
      have hk0 : (0 : Int) ≤ (j : Int) := by omega
      have hk1 : (j : Int) < (l.length : Int) := by omega
      have u1 : (n != n) = false := by simp
      clear hu hx
      go_wp2
      go_quiet (fail)
      go_wp2
      go_roundw
      case rel => exact ⟨j + 1, _, by omega, by go_num, rfl⟩
      case measure => simp [intOf]; omega
    · have hjn : ¬ (j : Int) < (l.length : Int) := by omega
      go_wp2
      go_ret
      exact ⟨rfl, ⟨rfl, rfl, rfl, Nat.le_refl _, fun _ _ => rfl⟩⟩
end Go.Proofs.Ytkiijbbcfbkecaa
