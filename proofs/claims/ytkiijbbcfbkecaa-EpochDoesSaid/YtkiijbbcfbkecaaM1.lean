/- Entries that the call itself has made: a row of entries of its own; each label and value a row of bytes of its own. -/
import Derived.Test.YtkiijbbcfbkecaaM0
namespace Go.Proofs.Ytkiijbbcfbkecaa
open Go.RowKit
set_option linter.unusedVariables false

/-- Cells i*5 .. i*5+4 of xs are entry x, its label and value in rows of the call's own. -/
def ECell (w : World) (base : Nat) (xs : List Value) (i : Nat) (x : Ent) : Prop :=
  ∃ vl vv, xs[i * 5]? = some vl ∧ w.ownsRow base 5 1 vl x.label.length (bvs x.label) ∧ xs[i * 5 + 1]? = some vv ∧ w.ownsRow base 5 1 vv x.value.length (bvs x.value) ∧
    xs[i * 5 + 2]? = some (.int .i64 x.ver) ∧ xs[i * 5 + 3]? = some (.int .i64 x.ep) ∧ xs[i * 5 + 4]? = some (.bool x.er)
structure OwnE (w : World) (base : Nat) (V : Value) (xs : List Value) (l : List Ent) : Prop where
  outer : w.ownsRow base 49 5 V l.length xs
  inner : ∀ (i : Nat) (x : Ent), l[i]? = some x → ECell w base xs i x

section
variable {w w' : World} {base : Nat} {V : Value} {xs : List Value} {l : List Ent}
theorem ECell.kept {i : Nat} {x : Ent} (h : ECell w base xs i x) {row : Option Nat} (hg : w.grownBy w' row) (hne : ∀ g cur t, row = some g → w.heap[g]? = some (.cells cur t (0, 0)) → t ≠ 5) : ECell w' base xs i x := by
  have far : ∀ {n v ys}, w.ownsRow base 5 1 v n ys → v.ownBlock = none ∨ v.ownBlock ≠ row := by
    intro n v ys ho
    rcases hb : v.ownBlock with _ | g
    · exact .inl rfl
    · refine .inr fun hr => ?_
      obtain ⟨cur, hh, _⟩ := own_block ho hb
      exact hne g cur _ hr.symm hh rfl
  obtain ⟨vl, vv, g1, g2, g3, g4, g5⟩ := h
  exact ⟨vl, vv, g1, g2.kept hg (far g2), g3, g4.kept hg (far g4), g5⟩
theorem OwnE.less (h : OwnE w base V xs l) {b : Nat} (hb : b ≤ base) : OwnE w b V xs l :=
  ⟨own_less h.outer hb, fun i x hx => by obtain ⟨vl, vv, g1, g2, g3, g4, g5⟩ := h.inner i x hx; exact ⟨vl, vv, g1, own_less g2 hb, g3, own_less g4 hb, g5⟩⟩
/-- Blocks of other element types may turn. -/
theorem OwnE.grown (h : OwnE w base V xs l) {row : Option Nat} (hg : w.grownBy w' row) (hne : ∀ g cur t, row = some g → w.heap[g]? = some (.cells cur t (0, 0)) → t ≠ 49 ∧ t ≠ 5) : OwnE w' base V xs l := by
  refine ⟨h.outer.kept hg ?_, fun i x hx => (h.inner i x hx).kept hg (fun g cur t e hh => (hne g cur t e hh).2)⟩
  rcases hb : V.ownBlock with _ | g
  · exact .inl rfl
  · refine .inr fun hr => ?_
    obtain ⟨cur, hh, _⟩ := own_block h.outer hb
    exact (hne g cur _ hr.symm hh).1 rfl
theorem OwnE.grown0 (h : OwnE w base V xs l) (hg : w.grownBy w' none) : OwnE w' base V xs l := h.grown hg (fun _ _ _ e => by cases e)
theorem OwnE.below (h : OwnE w base V xs l) (hb : Below w.heap.size w w') : OwnE w' base V xs l := h.grown0 (grown_of_below hb)
theorem OwnE.alloc (h : OwnE w base V xs l) (o : Obj) : OwnE (w.alloc o) base V xs l := h.grown0 (World.grownBy_alloc w o none)
theorem OwnE.drew (h : OwnE w base V xs l) : OwnE w.drew base V xs l := ⟨h.outer, h.inner⟩
theorem OwnE.grownB (h : OwnE w base V xs l) {g : Nat} {t : TypeId} {cs : Array Value} (hg : w.grownBy w' (some g)) (hb : Blk w g t cs) (h1 : t ≠ 49) (h2 : t ≠ 5) : OwnE w' base V xs l :=
  h.grown hg (fun g' cur t' e hh => by
    injection e with e
    subst e
    unfold Blk at hb
    rw [hb] at hh
    injection hh with hh
    injection hh with _ ht
    subst ht
    exact ⟨h1, h2⟩)
theorem OwnE.form (h : OwnE w base V xs l) : ∃ A c, V = .slice A l.length c ∧ l.length ≤ c ∧ c ≤ maxLen := own_form h.outer
theorem OwnE.len (h : OwnE w base V xs l) : xs.length = l.length * 5 := h.outer.1
theorem OwnE.ents {A : Option Addr} {c : Nat} (h : OwnE w base (.slice A l.length c) xs l) : Ents w w.heap.size A l.length l := by
  refine ⟨rfl, xs, own_rdn h.outer, fun i x hx => ?_⟩
  obtain ⟨vl, vv, g1, g2, g3, g4, g5⟩ := h.inner i x hx
  exact ⟨vl, vv, g1, own_bs g2, g3, own_bs g4, g5⟩
/-- The place of entry i. -/
theorem OwnE.at_ (h : OwnE w base V xs l) {i : Nat} (hi : i < l.length) : ∃ G cap x Al cl Av cv, V = .slice (some ⟨G, 0, none⟩) l.length cap ∧ l.length ≤ cap ∧ cap ≤ maxLen ∧ base ≤ G ∧ G < w.heap.size ∧ l[i]? = some x ∧
    w.cell? ⟨G, i * 5, none⟩ = some (.slice Al x.label.length cl) ∧ w.cell? ⟨G, i * 5 + 1, none⟩ = some (.slice Av x.value.length cv) ∧ w.cell? ⟨G, i * 5 + 2, none⟩ = some (.int .i64 x.ver) ∧ w.cell? ⟨G, i * 5 + 3, none⟩ = some (.int .i64 x.ep) ∧ w.cell? ⟨G, i * 5 + 4, none⟩ = some (.bool x.er) ∧
    (∀ j, w.frozen? ⟨G, j, none⟩ = false) := by
  have hx : l[i]? = some (l[i]'hi) := List.getElem?_eq_getElem hi
  obtain ⟨vl, vv, g1, g2, g3, g4, g5, g6, g7⟩ := h.inner i _ hx
  obtain ⟨Al, cl, rfl, _⟩ := own_form g2
  obtain ⟨Av, cv, rfl, _⟩ := own_form g4
  rcases h.outer.2 with ⟨_, h0⟩ | ⟨G, cap, cur, rfl, hb, hh, h1, h2, _⟩
  · omega
  · have at_ : ∀ j u, j < l.length * 5 → xs[j]? = some u → w.cell? ⟨G, j, none⟩ = some u := fun j u hj hu => (h.outer.cellAt j hj).trans hu
    exact ⟨G, cap, _, Al, cl, Av, cv, rfl, h1, h2, hb, (Array.getElem?_eq_some_iff.1 hh).1, hx, at_ _ _ (by omega) g1, at_ _ _ (by omega) g3, at_ _ _ (by omega) g5, at_ _ _ (by omega) g6, at_ _ _ (by omega) g7, h.outer.frozenAt⟩
theorem OwnE.blk (h : OwnE w base V xs l) {G n cap : Nat} (hV : V = .slice (some ⟨G, 0, none⟩) n cap) : ∃ cur, Blk w G 49 cur := by
  obtain ⟨c, hc, _⟩ := own_block h.outer (g := G) (by rw [hV]; rfl)
  exact ⟨c, hc⟩
/-- Cells of entry i are written; no others. -/
theorem OwnE.put {ys : List Value} {i : Nat} {x' : Ent} (h : OwnE w base V xs l) (hi : i < l.length) (ho : w'.ownsRow base 49 5 V l.length ys) (hg : w.grownBy w' V.ownBlock)
    (hys : ∀ j, j < i * 5 ∨ i * 5 + 5 ≤ j → ys[j]? = xs[j]?) (hx : ECell w base ys i x') : OwnE w' base V ys (l.set i x') := by
  have hne : ∀ g cur t, V.ownBlock = some g → w.heap[g]? = some (.cells cur t (0, 0)) → t ≠ 5 := by
    intro g cur t e hh
    obtain ⟨c, hc, _⟩ := own_block h.outer e
    rw [hc] at hh
    injection hh with hh
    injection hh with _ ht
    subst ht
    decide
  refine ⟨by rw [List.length_set]; exact ho, fun j x hj => ?_⟩
  by_cases hij : i = j
  · subst hij
    rw [List.getElem?_set_self hi] at hj
    injection hj with hj
    subst hj
    exact hx.kept hg hne
  · rw [List.getElem?_set_ne hij] at hj
    have hE := (h.inner j x hj).kept hg hne
    obtain ⟨vl, vv, g1, g2, g3, g4, g5, g6, g7⟩ := hE
    exact ⟨vl, vv, (hys _ (by omega)).trans g1, g2, (hys _ (by omega)).trans g3, g4, (hys _ (by omega)).trans g5, (hys _ (by omega)).trans g6, (hys _ (by omega)).trans g7⟩
end
/-- Five cells are written. -/
abbrev set5a (w : World) (g o : Nat) (a b c d e : Value) : World := ((((w.setCell ⟨g, o, none⟩ a).setCell ⟨g, o + 1, none⟩ b).setCell ⟨g, o + 2, none⟩ c).setCell ⟨g, o + 3, none⟩ d).setCell ⟨g, o + 4, none⟩ e
/-- An entry is stored whole. -/
theorem OwnE.store {w : World} {base G n cap : Nat} {xs : List Value} {l : List Ent} {i : Nat} {x' : Ent} {vl vv : Value} (h : OwnE w base (.slice (some ⟨G, 0, none⟩) n cap) xs l) (hi : i < l.length) (h1 : w.ownsRow base 5 1 vl x'.label.length (bvs x'.label)) (h2 : w.ownsRow base 5 1 vv x'.value.length (bvs x'.value)) :
    ∃ ys, OwnE (set5a w G (i * 5) vl vv (.int .i64 x'.ver) (.int .i64 x'.ep) (.bool x'.er)) base (.slice (some ⟨G, 0, none⟩) n cap) ys (l.set i x') ∧ w.grownBy (set5a w G (i * 5) vl vv (.int .i64 x'.ver) (.int .i64 x'.ep) (.bool x'.er)) (some G) := by
  have hn : n = l.length := by
    rcases h.outer.2 with ⟨h', _⟩ | ⟨_, _, _, h', _⟩
    · simp at h'
    · simp only [Value.slice.injEq] at h'; exact h'.2.1
  subst hn
  have hl := h.len
  have s0 := h.outer.stored (i * 5) vl
  have s1 := s0.1.stored (i * 5 + 1) vv
  have s2 := s1.1.stored (i * 5 + 2) (.int .i64 x'.ver)
  have s3 := s2.1.stored (i * 5 + 3) (.int .i64 x'.ep)
  have s4 := s3.1.stored (i * 5 + 4) (.bool x'.er)
  have hg := (((s0.2.trans s1.2).trans s2.2).trans s3.2).trans s4.2
  refine ⟨_, h.put hi s4.1 hg (fun j hj => ?_) ?_, hg⟩
  · simp only [List.getElem?_set]
    rw [if_neg (by omega), if_neg (by omega), if_neg (by omega), if_neg (by omega), if_neg (by omega)]
  · refine ⟨vl, vv, ?_, h1, ?_, h2, ?_, ?_, ?_⟩
    · simp only [List.getElem?_set, List.length_set]
      rw [if_neg (by omega), if_neg (by omega), if_neg (by omega), if_neg (by omega), if_pos trivial, if_pos (by omega)]
    · simp only [List.getElem?_set, List.length_set]
      rw [if_neg (by omega), if_neg (by omega), if_neg (by omega), if_pos trivial, if_pos (by omega)]
    · simp only [List.getElem?_set, List.length_set]
      rw [if_neg (by omega), if_neg (by omega), if_pos trivial, if_pos (by omega)]
    · simp only [List.getElem?_set, List.length_set]
      rw [if_neg (by omega), if_pos trivial, if_pos (by omega)]
    · simp only [List.getElem?_set, List.length_set]
      rw [if_pos trivial, if_pos (by omega)]
/-- n entries of zeros. -/
def zEnt : Ent := ⟨[], [], 0, 0, false⟩
theorem OwnE.zeros {w : World} {base n : Nat} {V : Value} {xs : List Value} (h : w.ownsRow base 49 5 V n xs) (hx : ∀ i, i < n → xs[i * 5]? = some (.slice none 0 0) ∧ xs[i * 5 + 1]? = some (.slice none 0 0) ∧ xs[i * 5 + 2]? = some (.int .i64 0) ∧ xs[i * 5 + 3]? = some (.int .i64 0) ∧ xs[i * 5 + 4]? = some (.bool false)) : OwnE w base V xs (List.replicate n zEnt) := by
  refine ⟨by simpa using h, fun i x hi => ?_⟩
  have hin : i < n := by simpa using (List.getElem?_eq_some_iff.1 hi).1
  have e : zEnt = x := by simpa [hin] using hi
  subst e
  obtain ⟨g1, g2, g3, g4, g5⟩ := hx i hin
  exact ⟨_, _, g1, World.ownsRow_nil _ _ _ _, g2, World.ownsRow_nil _ _ _ _, g3, g4, g5⟩
end Go.Proofs.Ytkiijbbcfbkecaa
