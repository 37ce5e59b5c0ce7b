/- Disks as plain data: what one write, and writes one behind the other, do. No program here. -/
import Derived.IntWalk
import Derived.Test.YtgeofnemlijbgaaDoorD0
namespace Go.Proofs.YtgeofnemlijbgaaDoor
open Go.RowKit

abbrev Wr := Int × List UInt8

/-- How many bytes of the next write go over. -/
def tornN (t : Int) : Nat := (min (max t 0) 64).toNat
def badW (d : Dsk) (x : Wr) : Bool := decide (x.1 < 0) || decide ((d.secs.length : Int) ≤ x.1) || decide (x.2.length ≠ 64)
def secAt (d : Dsk) (i : Int) : List UInt8 := d.secs.getD i.toNat []
def wrD (d : Dsk) (x : Wr) : Dsk × Int :=
  if badW d x then (d, 1)
  else if d.off then (d, 170)
  else if d.left = 0 then ({ d with secs := d.secs.set x.1.toNat (x.2.take (tornN d.torn) ++ (secAt d x.1).drop (tornN d.torn)), off := true }, 170)
  else ({ d with secs := d.secs.set x.1.toNat x.2, done := wrap64 (d.done + 1), left := if 0 < d.left then d.left - 1 else d.left }, 0)
def doL (d : Dsk) : List Wr → Dsk × Int
  | [] => (d, 0)
  | x :: l => if (wrD d x).2 = 0 then doL (wrD d x).1 l else wrD d x
def doD (d : Dsk) (l : List Wr) : Dsk × Int := if checkB d.secs then doL d l else (d, 1)
def GoodD (d : Dsk) : Prop := (∀ (i : Nat) (l : List UInt8), d.secs[i]? = some l → l.length = 64) ∧ d.left ≤ 9223372036854775807
theorem tornN_le (t : Int) : tornN t ≤ 64 := by unfold tornN; omega
theorem wrD_len (d : Dsk) (x : Wr) : (wrD d x).1.secs.length = d.secs.length := by
  unfold wrD
  repeat' split
  all_goals simp
theorem set_all {P : List UInt8 → Prop} {ss : List (List UInt8)} {k : Nat} {y : List UInt8} (h : ∀ (i : Nat) (l : List UInt8), ss[i]? = some l → P l) (hy : k < ss.length → P y) : ∀ (i : Nat) (l : List UInt8), (ss.set k y)[i]? = some l → P l := by
  intro i l hl
  by_cases e : k = i
  · subst e
    rcases Nat.lt_or_ge k ss.length with hk | hk
    · rw [List.getElem?_set_self hk] at hl
      injection hl with hl
      subst hl
      exact hy hk
    · rw [List.getElem?_eq_none (by simpa using hk)] at hl
      cases hl
  · rw [List.getElem?_set_ne e] at hl
    exact h i l hl
theorem badW_false {d : Dsk} {x : Wr} (h : badW d x = false) : 0 ≤ x.1 ∧ x.1 < d.secs.length ∧ x.2.length = 64 := by
  simp only [badW, Bool.or_eq_false_iff, decide_eq_false_iff_not, ne_eq, Decidable.not_not] at h
  omega
theorem good_wr {d : Dsk} (x : Wr) (h : GoodD d) : GoodD (wrD d x).1 := by
  unfold wrD
  cases hb : badW d x
  · obtain ⟨h0, h1, h2⟩ := badW_false hb
    cases ho : d.off
    · by_cases hl : d.left = 0
      · simp only [hl, if_true, Bool.false_eq_true, if_false]
        refine ⟨set_all h.1 fun hk => ?_, by have := h.2; dsimp only; omega⟩
        have ht := tornN_le d.torn
        have h3 : (secAt d x.1).length = 64 := h.1 x.1.toNat _ (by unfold secAt; rw [List.getD_eq_getElem?_getD, List.getElem?_eq_getElem hk]; rfl)
        simp only [List.length_append, List.length_take, List.length_drop]
        omega
      · simp only [hl, Bool.false_eq_true, if_false]
        refine ⟨set_all h.1 fun _ => h2, ?_⟩
        have := h.2
        dsimp only
        split <;> omega
    · simpa [ho] using h
  · simpa [hb] using h
theorem good_check {d : Dsk} (h : checkB d.secs = true) (hl : d.left ≤ 9223372036854775807) : GoodD d := ⟨fun _ _ h' => checkB_at h h', hl⟩
theorem doL_stop {d : Dsk} {x : Wr} {l : List Wr} (h : (wrD d x).2 ≠ 0) : doL d (x :: l) = wrD d x := by simp [doL, h]
theorem doL_go {d : Dsk} {x : Wr} {l : List Wr} (h : (wrD d x).2 = 0) : doL d (x :: l) = doL (wrD d x).1 l := by simp [doL, h]
theorem drop_at {α : Type} {l : List α} {k : Nat} {x : α} (h : l[k]? = some x) : l.drop k = x :: l.drop (k + 1) := by
  obtain ⟨hk, e⟩ := List.getElem?_eq_some_iff.1 h
  rw [List.drop_eq_getElem_cons hk, e]
theorem sm_good {d : Dsk} (h : checkB d.secs = true) : d.secs.length ≤ 2048 := (checkB_len h).2

end Go.Proofs.YtgeofnemlijbgaaDoor
