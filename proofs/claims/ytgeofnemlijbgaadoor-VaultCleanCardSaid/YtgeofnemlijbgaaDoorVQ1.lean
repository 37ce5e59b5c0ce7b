/- VaultClean: how many sectors have others than bytes 0. No program here. -/
import Derived.Test.YtgeofnemlijbgaaDoorVO0
namespace Go.Proofs.YtgeofnemlijbgaaDoor
open Go.RowKit
set_option linter.unusedVariables false

/-- How many of the first sectors have others than bytes 0. -/
def cntZ (ss : List (List UInt8)) : Nat → Nat
  | 0 => 0
  | i + 1 => cntZ ss i + if ss.getD i [] = zeros 64 then 0 else 1
theorem cntZ_yes {ss : List (List UInt8)} {i : Nat} {l : List UInt8} (h : ss[i]? = some l) (hz : ¬ l = zeros 64) : cntZ ss (i + 1) = cntZ ss i + 1 := by
  simp only [cntZ, List.getD_eq_getElem?_getD, h, Option.getD_some, hz, if_false]
theorem cntZ_no {ss : List (List UInt8)} {i : Nat} {l : List UInt8} (h : ss[i]? = some l) (hz : l = zeros 64) : cntZ ss (i + 1) = cntZ ss i := by
  simp only [cntZ, List.getD_eq_getElem?_getD, h, Option.getD_some, hz, if_true, Nat.add_zero]
theorem cntZ_le (ss : List (List UInt8)) (i : Nat) : cntZ ss i ≤ i := by
  induction i with
  | zero => exact Nat.le_refl _
  | succ i ih => unfold cntZ; split <;> omega
theorem head_ne (n m : Nat) : ¬ headL n m = zeros 64 := by
  intro h
  have : (headL n m)[0]? = (zeros 64)[0]? := by rw [h]
  simp [zeros, headL] at this
section
variable {x : Dsk} {k n : Nat} {t l : List UInt8}
theorem Has.k1 (h : Has x k n t) : k ≤ 1 := (used_le h.ck h.new).2
/-- A sector that is not all 0 is the head, or one of the text's, or the odd one. -/
theorem Has.full (h : Has x k n t) {i : Nat} (hi : x.secs[i]? = some l) (hz : ¬ l = zeros 64) : (atD x k ≤ i ∧ i < atD x k + 1 + pn t) ∨ (2 * halfD x ≤ i ∧ i + 1 = x.secs.length) := by
  obtain ⟨g1, g2, g3, g4⟩ := halfD_eq h.ck
  have hlt := (List.getElem?_eq_some_iff.1 hi).1
  have ha := areas_at h.ck h.k1
  by_cases h1 : 2 * halfD x ≤ i
  · exact .inr ⟨h1, by omega⟩
  · by_cases h2 : atD x k ≤ i ∧ i < atD x k + 1 + pn t
    · exact .inl h2
    · exfalso
      by_cases h3 : atD x (1 - k) ≤ i ∧ i < atD x (1 - k) + halfD x
      · rw [h.other i h3.1 h3.2] at hi; injection hi with hi; exact hz hi.symm
      · rw [h.rest i (by omega) (by omega)] at hi; injection hi with hi; exact hz hi.symm
theorem Has.count (h : Has x k n t) (hodd : ∀ l, 2 * halfD x ≤ x.secs.length - 1 → x.secs[x.secs.length - 1]? = some l → l = zeros 64) : ∀ i, i ≤ x.secs.length → cntZ x.secs i ≤ min (i - atD x k) (1 + pn t) := by
  intro i
  induction i with
  | zero => intro _; exact Nat.zero_le _
  | succ i ih =>
    intro hi
    have h1 := ih (by omega)
    obtain ⟨l, hl⟩ : ∃ l, x.secs[i]? = some l := ⟨_, List.getElem?_eq_getElem (by omega)⟩
    by_cases hz : l = zeros 64
    · rw [cntZ_no hl hz]; omega
    · rw [cntZ_yes hl hz]
      rcases h.full hl hz with h2 | ⟨h2, h3⟩
      · omega
      · exfalso
        have e : x.secs.length - 1 = i := by omega
        exact hz (hodd l (by omega) (by rw [e]; exact hl))
/-- The first sector is all 0 just where the text is in the second area. -/
theorem Has.first (h : Has x k n t) (hl : x.secs[0]? = some l) : (k = 0 ∧ ¬ l = zeros 64 ∧ atD x k = 0) ∨ (k = 1 ∧ l = zeros 64 ∧ atD x k = halfD x) := by
  obtain ⟨g1, g2, g3, g4⟩ := halfD_eq h.ck
  rcases areas_at h.ck h.k1 with ⟨rfl, a0, a1⟩ | ⟨rfl, a0, a1⟩
  · have hh := h.head
    rw [a0, hl] at hh
    injection hh with hh
    exact .inl ⟨rfl, by rw [hh]; exact head_ne _ _, a0⟩
  · have hh := h.other 0 (by omega) (by omega)
    rw [hl] at hh
    injection hh with hh
    exact .inr ⟨rfl, hh, a0⟩
end
end Go.Proofs.YtgeofnemlijbgaaDoor
