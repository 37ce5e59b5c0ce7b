/- Writes that the call itself has made: a row of writes of its own; each one's bytes a row of its own. -/
import Derived.Test.YtgeofnemlijbgaaDoorV9
import Derived.Test.YtgeofnemlijbgaaDoorD5
import Derived.RangeFuncNested
import Derived.RangeFuncBound
import Derived.RangeFuncCalls
import Derived.RangeFuncLeaves
import Derived.Shelf.Abstract
import Derived.Shelf.RegionOpen
import Derived.WalkKit
import Derived.OwnWalkIn
import Derived.TacticsInMore
import Derived.LoopNIn
import Derived.LoopIn
namespace Go.Proofs.YtgeofnemlijbgaaDoor
open Go.RowKit
set_option linter.unusedVariables false

theorem infoTW : (Tryd.prog.info? 60).map (fun i => (i.zero, i.size, i.bytes)) = some (some (.agg #[.int .i64 0, .slice none 0 0]), 2, 32) := by kernel_rfl
/-- Cells i*2, i*2+1 of xs are write x, its bytes in a row of the call's own. -/
def WCell (w : World) (base : Nat) (xs : List Value) (i : Nat) (x : Wr) : Prop :=
  xs[i * 2]? = some (.int .i64 x.1) ∧ ∃ v, xs[i * 2 + 1]? = some v ∧ w.ownsRow base 5 1 v x.2.length (bvs x.2)
structure OwnW (w : World) (base : Nat) (V : Value) (xs : List Value) (l : List Wr) : Prop where
  outer : w.ownsRow base 60 2 V l.length xs
  inner : ∀ (i : Nat) (x : Wr), l[i]? = some x → WCell w base xs i x
section
variable {w w' : World} {base : Nat} {V V' : Value} {xs ys : List Value} {l : List Wr}
theorem WCell.kept {i : Nat} {x : Wr} (h : WCell w base xs i x) {row : Option Nat} (hg : w.grownBy w' row) (hne : ∀ g cur t, row = some g → w.heap[g]? = some (.cells cur t (0, 0)) → t ≠ 5) : WCell w' base xs i x := by
  obtain ⟨g1, v, g2, g3⟩ := h
  refine ⟨g1, v, g2, g3.kept hg ?_⟩
  rcases hb : v.ownBlock with _ | g
  · exact .inl rfl
  · refine .inr fun hr => ?_
    obtain ⟨cur, hh, _⟩ := own_block g3 hb
    exact hne g cur _ hr.symm hh rfl
theorem OwnW.less (h : OwnW w base V xs l) {b : Nat} (hb : b ≤ base) : OwnW w b V xs l :=
  ⟨own_less h.outer hb, fun i x hx => by obtain ⟨g1, v, g2, g3⟩ := h.inner i x hx; exact ⟨g1, v, g2, own_less g3 hb⟩⟩
theorem OwnW.grown (h : OwnW w base V xs l) {row : Option Nat} (hg : w.grownBy w' row) (hne : ∀ g cur t, row = some g → w.heap[g]? = some (.cells cur t (0, 0)) → t ≠ 60 ∧ t ≠ 5) : OwnW w' base V xs l := by
  refine ⟨h.outer.kept hg ?_, fun i x hx => (h.inner i x hx).kept hg (fun g cur t e hh => (hne g cur t e hh).2)⟩
  rcases hb : V.ownBlock with _ | g
  · exact .inl rfl
  · refine .inr fun hr => ?_
    obtain ⟨cur, hh, _⟩ := own_block h.outer hb
    exact (hne g cur _ hr.symm hh).1 rfl
theorem OwnW.grown0 (h : OwnW w base V xs l) (hg : w.grownBy w' none) : OwnW w' base V xs l := h.grown hg (fun _ _ _ e => by cases e)
theorem OwnW.below (h : OwnW w base V xs l) (hb : Below w.heap.size w w') : OwnW w' base V xs l := h.grown0 (grown_of_below hb)
theorem OwnW.alloc (h : OwnW w base V xs l) (o : Obj) : OwnW (w.alloc o) base V xs l := h.grown0 (World.grownBy_alloc w o none)
theorem OwnW.drew (h : OwnW w base V xs l) : OwnW w.drew base V xs l := ⟨h.outer, h.inner⟩
theorem OwnW.grownB (h : OwnW w base V xs l) {g : Nat} {t : TypeId} {cs : Array Value} (hg : w.grownBy w' (some g)) (hb : Blk w g t cs) (h1 : t ≠ 60) (h2 : t ≠ 5) : OwnW w' base V xs l :=
  h.grown hg (fun g' cur t' e hh => by
    injection e with e
    subst e
    unfold Blk at hb
    rw [hb] at hh
    injection hh with hh
    injection hh with _ ht
    subst ht
    exact ⟨h1, h2⟩)
/-- Blocks that are no cells may turn. -/
theorem OwnW.turned (h : OwnW w base V xs l) {row : Option Nat} (hg : w.grownBy w' row) (hr : ∀ r, row = some r → ∃ o : Obj, w.heap[r]? = some o ∧ o.isCells = false) : OwnW w' base V xs l :=
  h.grown hg (fun g cur t e hh => by
    obtain ⟨o, ho, hc⟩ := hr g e
    rw [hh] at ho
    injection ho with ho
    subst ho
    cases hc)
theorem OwnW.form (h : OwnW w base V xs l) : ∃ A c, V = .slice A l.length c ∧ l.length ≤ c ∧ c ≤ maxLen := own_form h.outer
theorem OwnW.len (h : OwnW w base V xs l) : xs.length = l.length * 2 := h.outer.1
theorem OwnW.wrs {A : Option Addr} {c : Nat} (h : OwnW w base (.slice A l.length c) xs l) : Wrs w w.heap.size A l.length l := by
  refine ⟨rfl, xs, own_rdn h.outer, fun i x hx => ?_⟩
  obtain ⟨g1, v, g2, g3⟩ := h.inner i x hx
  exact ⟨g1, v, g2, own_bs g3⟩
theorem OwnW.ne8 (h : OwnW w base V xs l) : ∀ g cur t, V.ownBlock = some g → w.heap[g]? = some (.cells cur t (0, 0)) → t ≠ 5 := by
  intro g cur t e hh
  obtain ⟨c, hc, _⟩ := own_block h.outer e
  rw [hc] at hh
  injection hh with hh
  injection hh with _ ht
  subst ht
  decide
theorem OwnW.nil (w : World) (base : Nat) : OwnW w base (.slice none 0 0) [] [] := ⟨World.ownsRow_nil _ _ _ _, fun i x hx => by simp at hx⟩
/-- One more, by append. -/
theorem OwnW.push (h : OwnW w base V xs l) {v : Value} {x : Wr} (h1 : w.ownsRow base 5 1 v x.2.length (bvs x.2))
    (hV : w'.ownsRow base 60 2 V' (l.length + 1) (xs ++ [.int .i64 x.1, v])) (hg : w.grownBy w' V.ownBlock) : OwnW w' base V' (xs ++ [.int .i64 x.1, v]) (l ++ [x]) := by
  have hl := h.len
  refine ⟨by simpa using hV, fun i y hi => ?_⟩
  rcases Nat.lt_or_ge i l.length with hlt | hge
  · rw [List.getElem?_append_left hlt] at hi
    obtain ⟨g1, u, g2, g3⟩ := (h.inner i y hi).kept hg h.ne8
    exact ⟨by rw [List.getElem?_append_left (by omega)]; exact g1, u, by rw [List.getElem?_append_left (by omega)]; exact g2, g3⟩
  · have hi' := (List.getElem?_eq_some_iff.1 hi).1
    rw [List.length_append] at hi'
    have e : i = l.length := by simp at hi'; omega
    subst e
    have hy : x = y := by simpa using hi
    subst hy
    have hx : WCell w base (xs ++ [.int .i64 x.1, v]) l.length x := by
      refine ⟨?_, v, ?_, h1⟩
      · rw [List.getElem?_append_right (by omega), show l.length * 2 - xs.length = 0 by omega]; rfl
      · rw [List.getElem?_append_right (by omega), show l.length * 2 + 1 - xs.length = 1 by omega]; rfl
    exact hx.kept hg h.ne8
/-- More of them, by append. -/
theorem OwnW.app (h : OwnW w base V xs l) {m : List Wr} {U : Value} (h1 : OwnW w base U ys m)
    (hV : w'.ownsRow base 60 2 V' (l.length + m.length) (xs ++ ys)) (hg : w.grownBy w' V.ownBlock) : OwnW w' base V' (xs ++ ys) (l ++ m) := by
  have hl := h.len
  refine ⟨by rw [List.length_append]; exact hV, fun i y hi => ?_⟩
  rcases Nat.lt_or_ge i l.length with hlt | hge
  · rw [List.getElem?_append_left hlt] at hi
    obtain ⟨g1, u, g2, g3⟩ := (h.inner i y hi).kept hg h.ne8
    exact ⟨by rw [List.getElem?_append_left (by omega)]; exact g1, u, by rw [List.getElem?_append_left (by omega)]; exact g2, g3⟩
  · rw [List.getElem?_append_right hge] at hi
    obtain ⟨g1, u, g2, g3⟩ := (h1.inner _ y hi).kept hg h.ne8
    exact ⟨by rw [List.getElem?_append_right (by omega), show i * 2 - xs.length = (i - l.length) * 2 by omega]; exact g1, u, by rw [List.getElem?_append_right (by omega), show i * 2 + 1 - xs.length = (i - l.length) * 2 + 1 by omega]; exact g2, g3⟩
end
/-- A call hands back writes in memory of its own, and an error. -/
def WRet (w : World) (r : List Wr × Int) (e : Ending) (w' : World) : Prop :=
  ∃ A c xs, e = .returned (.tuple #[.slice A r.1.length c, .int .i64 r.2]) ∧ OwnW w' w.heap.size (.slice A r.1.length c) xs r.1 ∧ Below w.heap.size w w'

/-- Bytes of which one is not 0. -/
def dirtyB (l : List UInt8) : Bool := l.any fun b => decide (b ≠ 0)
theorem dirtyB_iff {l : List UInt8} : dirtyB l = true ↔ ∃ b ∈ l, b ≠ 0 := by simp [dirtyB]
/-- The places of those among n from a on. -/
def dts (ss : List (List UInt8)) (a : Nat) : Nat → List Nat
  | 0 => []
  | k + 1 => dts ss a k ++ if dirtyB (ss.getD (a + k) []) then [a + k] else []
theorem dts_len (ss : List (List UInt8)) (a k : Nat) : (dts ss a k).length ≤ k := by
  induction k with
  | zero => simp [dts]
  | succ k ih =>
    simp only [dts, List.length_append]
    split <;> simp <;> omega
/-- Zeros into each of them. -/
def wipe (l : List Nat) : List Wr := l.map fun (i : Nat) => ((i : Int), zeros 64)
/-- The writes by which nothing else is left than a disk's text. -/
def scrubD (d : Dsk) : List Wr × Int :=
  if checkB d.secs then match newestD d with
    | some (k, n, m) => (wipe (dts d.secs (atD d (1 - k)) (halfD d)) ++ wipe (dts d.secs (atD d k + 1 + (m + 63) / 64) (halfD d - 1 - (m + 63) / 64)), 0)
    | none => ([], 181)
  else ([], 1)
end Go.Proofs.YtgeofnemlijbgaaDoor
