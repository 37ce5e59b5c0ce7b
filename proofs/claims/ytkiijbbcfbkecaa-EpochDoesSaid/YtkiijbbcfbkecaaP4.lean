/- What Latest and Get tell, as plain counts and places. -/
import Derived.Test.YtkiijbbcfbkecaaG3
import Derived.Test.YtkiijbbcfbkecaaF4
import Derived.Test.YtkiijbbcfbkecaaP3
namespace Go.Proofs.Ytkiijbbcfbkecaa
open Go.RowKit

theorem mts_cnt (l : List Ent) (lab : List UInt8) (n : Nat) : (mts l lab n).length = cntL (l.take n) lab := by
  induction n with
  | zero => simp [mts, cntL]
  | succ n ih =>
    simp only [mts, List.length_append, ih]
    rcases hx : l[n]? with _ | x
    · rw [List.take_of_length_le (by have := List.getElem?_eq_none_iff.1 hx; omega), List.take_of_length_le (by have := List.getElem?_eq_none_iff.1 hx; omega)]
      simp
    · rw [take_snoc_of hx, cntL_snoc]
      simp only
      split <;> simp_all
theorem latA_eq (k : Bk) (lab : List UInt8) : latA k lab = if checkBk k then (cntL k.ents lab : Int) else 0 := by
  unfold latA
  rw [mts_cnt, List.take_length]
theorem latA_ok {k : Bk} (h : checkBk k = true) (lab : List UInt8) : latA k lab = (cntL k.ents lab : Int) := by rw [latA_eq, h]; rfl
/-- How many of a label's versions an epoch has. -/
def cntH (l : List Ent) (lab : List UInt8) : Nat := l.countP fun o => decide (o.label = lab) && decide (0 < o.ep)
theorem cntH_snoc (l : List Ent) (x : Ent) (lab : List UInt8) : cntH (l ++ [x]) lab = cntH l lab + if x.label = lab ∧ 0 < x.ep then 1 else 0 := by
  unfold cntH
  rw [List.countP_append]
  by_cases h1 : x.label = lab <;> by_cases h2 : 0 < x.ep <;> simp [h1, h2]
theorem cntH_le (l : List Ent) (lab : List UInt8) : cntH l lab ≤ l.length := List.countP_le_length
theorem had_cnt (l : List Ent) (lab : List UInt8) (n : Nat) : hadN (mts l lab n) = cntH (l.take n) lab := by
  induction n with
  | zero => simp [mts, hadN, cntH]
  | succ n ih =>
    rcases hx : l[n]? with _ | x
    · have e : mts l lab (n + 1) = mts l lab n := by simp only [mts, hx, List.append_nil]
      rw [e, ih, List.take_of_length_le (by have := List.getElem?_eq_none_iff.1 hx; omega), List.take_of_length_le (by have := List.getElem?_eq_none_iff.1 hx; omega)]
    · rw [take_snoc_of hx, cntH_snoc]
      by_cases hl : x.label = lab
      · rw [mts_yes hx hl, hadN_snoc, ih]
        simp only [hl, true_and]
      · rw [mts_no hx hl, ih, if_neg (fun h => hl h.1)]
        rfl
theorem latH_eq (k : Bk) (lab : List UInt8) : latH k lab = if checkBk k then (cntH k.ents lab : Int) else 0 := by
  unfold latH
  rw [had_cnt, List.take_length]
theorem findV_snoc (l : List (Nat × Int × Int)) (x : Nat × Int × Int) (ver : Int) : findV (l ++ [x]) ver = match findV l ver with
    | some j => some j
    | none => if x.2.1 = ver then some x.1 else none := by
  unfold findV
  rw [List.find?_append]
  generalize List.find? _ l = r
  rcases r with _ | y
  · by_cases h : x.2.1 = ver <;> simp [h]
  · simp
theorem findV_eq (l : List Ent) (lab : List UInt8) (ver : Int) (n : Nat) : findV (mts l lab n) ver = getP l lab ver n := by
  induction n with
  | zero => simp [mts, findV, getP]
  | succ n ih =>
    rw [getP, ← ih]
    rcases hx : l[n]? with _ | x
    · have e : mts l lab (n + 1) = mts l lab n := by simp only [mts, hx, List.append_nil]
      rw [e]
      rcases findV (mts l lab n) ver with _ | j <;> rfl
    · by_cases hl : x.label = lab
      · rw [mts_yes hx hl, findV_snoc]
        simp only [hl, true_and]
        rcases findV (mts l lab n) ver with _ | j <;> rfl
      · rw [mts_no hx hl]
        rcases findV (mts l lab n) ver with _ | j
        · simp [hl]
        · rfl
theorem getI_eq (k : Bk) (lab : List UInt8) (ver : Int) : getI k lab ver = (((getN k lab ver).getD 0 : Nat) : Int) := by
  unfold getI getN
  rw [findV_eq]
  split <;> rfl
theorem getOk_eq (k : Bk) (lab : List UInt8) (ver : Int) : getOk k lab ver = (getN k lab ver).isSome := by
  unfold getOk getN
  rw [findV_eq]
  split <;> rfl
theorem waitN_ok {k : Bk} (h : checkBk k = true) : waitN k = (cntE k.ents 0 : Int) := by simp [waitN, h]
end Go.Proofs.Ytkiijbbcfbkecaa
