/- Entries of the call's own: one more, by append; one field of one entry written. -/
import Derived.Test.YtkiijbbcfbkecaaM1
namespace Go.Proofs.Ytkiijbbcfbkecaa
open Go.RowKit
set_option linter.unusedVariables false

section
variable {w w' : World} {base : Nat} {V V' : Value} {xs : List Value} {l : List Ent}
theorem OwnE.ne8 (h : OwnE w base V xs l) : ∀ g cur t, V.ownBlock = some g → w.heap[g]? = some (.cells cur t (0, 0)) → t ≠ 5 := by
  intro g cur t e hh
  obtain ⟨c, hc, _⟩ := own_block h.outer e
  rw [hc] at hh
  injection hh with hh
  injection hh with _ ht
  subst ht
  decide
/-- One more, by append. -/
theorem OwnE.push (h : OwnE w base V xs l) {vl vv : Value} {x : Ent} (h1 : w.ownsRow base 5 1 vl x.label.length (bvs x.label)) (h2 : w.ownsRow base 5 1 vv x.value.length (bvs x.value))
    (hV : w'.ownsRow base 49 5 V' (l.length + 1) (xs ++ [vl, vv, .int .i64 x.ver, .int .i64 x.ep, .bool x.er])) (hg : w.grownBy w' V.ownBlock) : OwnE w' base V' (xs ++ [vl, vv, .int .i64 x.ver, .int .i64 x.ep, .bool x.er]) (l ++ [x]) := by
  have hl := h.len
  refine ⟨by simpa using hV, fun i y hi => ?_⟩
  rcases Nat.lt_or_ge i l.length with hlt | hge
  · rw [List.getElem?_append_left hlt] at hi
    obtain ⟨ul, uv, g1, g2, g3, g4, g5, g6, g7⟩ := (h.inner i y hi).kept hg h.ne8
    exact ⟨ul, uv, by rw [List.getElem?_append_left (by omega)]; exact g1, g2, by rw [List.getElem?_append_left (by omega)]; exact g3, g4, by rw [List.getElem?_append_left (by omega)]; exact g5, by rw [List.getElem?_append_left (by omega)]; exact g6, by rw [List.getElem?_append_left (by omega)]; exact g7⟩
  · have hi' := (List.getElem?_eq_some_iff.1 hi).1
    rw [List.length_append] at hi'
    have e : i = l.length := by simp at hi'; omega
    subst e
    have hy : x = y := by simpa using hi
    subst hy
    have hx : ECell w base (xs ++ [vl, vv, .int .i64 x.ver, .int .i64 x.ep, .bool x.er]) l.length x := by
      refine ⟨vl, vv, ?_, h1, ?_, h2, ?_, ?_, ?_⟩
      · rw [List.getElem?_append_right (by omega), show l.length * 5 - xs.length = 0 by omega]; rfl
      · rw [List.getElem?_append_right (by omega), show l.length * 5 + 1 - xs.length = 1 by omega]; rfl
      · rw [List.getElem?_append_right (by omega), show l.length * 5 + 2 - xs.length = 2 by omega]; rfl
      · rw [List.getElem?_append_right (by omega), show l.length * 5 + 3 - xs.length = 3 by omega]; rfl
      · rw [List.getElem?_append_right (by omega), show l.length * 5 + 4 - xs.length = 4 by omega]; rfl
    exact hx.kept hg h.ne8
theorem OwnE.nlen {G n cap : Nat} (h : OwnE w base (.slice (some ⟨G, 0, none⟩) n cap) xs l) : n = l.length := by
  rcases h.outer.2 with ⟨h', _⟩ | ⟨_, _, _, h', _⟩
  · simp at h'
  · simp only [Value.slice.injEq] at h'; exact h'.2.1
/-- An entry's epoch is written. -/
theorem OwnE.setEp {G n cap i : Nat} {x : Ent} (h : OwnE w base (.slice (some ⟨G, 0, none⟩) n cap) xs l) (hx : l[i]? = some x) (ep : Int) :
    OwnE (w.setCell ⟨G, i * 5 + 3, none⟩ (.int .i64 ep)) base (.slice (some ⟨G, 0, none⟩) n cap) (xs.set (i * 5 + 3) (.int .i64 ep)) (l.set i { x with ep := ep }) ∧ w.grownBy (w.setCell ⟨G, i * 5 + 3, none⟩ (.int .i64 ep)) (some G) := by
  have hn := h.nlen
  subst hn
  have hi := (List.getElem?_eq_some_iff.1 hx).1
  have hl := h.len
  have s0 := h.outer.stored (i * 5 + 3) (.int .i64 ep)
  refine ⟨h.put hi s0.1 s0.2 (fun j hj => by rw [List.getElem?_set_ne (by omega)]) ?_, s0.2⟩
  obtain ⟨vl, vv, g1, g2, g3, g4, g5, g6, g7⟩ := h.inner i x hx
  exact ⟨vl, vv, by rw [List.getElem?_set_ne (by omega)]; exact g1, g2, by rw [List.getElem?_set_ne (by omega)]; exact g3, g4, by rw [List.getElem?_set_ne (by omega)]; exact g5, by rw [List.getElem?_set_self (by omega)], by rw [List.getElem?_set_ne (by omega)]; exact g7⟩
/-- An entry is marked erased. -/
theorem OwnE.setEr {G n cap i : Nat} {x : Ent} (h : OwnE w base (.slice (some ⟨G, 0, none⟩) n cap) xs l) (hx : l[i]? = some x) (er : Bool) :
    OwnE (w.setCell ⟨G, i * 5 + 4, none⟩ (.bool er)) base (.slice (some ⟨G, 0, none⟩) n cap) (xs.set (i * 5 + 4) (.bool er)) (l.set i { x with er := er }) ∧ w.grownBy (w.setCell ⟨G, i * 5 + 4, none⟩ (.bool er)) (some G) := by
  have hn := h.nlen
  subst hn
  have hi := (List.getElem?_eq_some_iff.1 hx).1
  have hl := h.len
  have s0 := h.outer.stored (i * 5 + 4) (.bool er)
  refine ⟨h.put hi s0.1 s0.2 (fun j hj => by rw [List.getElem?_set_ne (by omega)]) ?_, s0.2⟩
  obtain ⟨vl, vv, g1, g2, g3, g4, g5, g6, g7⟩ := h.inner i x hx
  exact ⟨vl, vv, by rw [List.getElem?_set_ne (by omega)]; exact g1, g2, by rw [List.getElem?_set_ne (by omega)]; exact g3, g4, by rw [List.getElem?_set_ne (by omega)]; exact g5, by rw [List.getElem?_set_ne (by omega)]; exact g6, by rw [List.getElem?_set_self (by omega)]⟩
/-- An entry's value is struck. -/
theorem OwnE.setNil {G n cap i : Nat} {x : Ent} (h : OwnE w base (.slice (some ⟨G, 0, none⟩) n cap) xs l) (hx : l[i]? = some x) :
    OwnE (w.setCell ⟨G, i * 5 + 1, none⟩ (.slice none 0 0)) base (.slice (some ⟨G, 0, none⟩) n cap) (xs.set (i * 5 + 1) (.slice none 0 0)) (l.set i { x with value := [] }) ∧ w.grownBy (w.setCell ⟨G, i * 5 + 1, none⟩ (.slice none 0 0)) (some G) := by
  have hn := h.nlen
  subst hn
  have hi := (List.getElem?_eq_some_iff.1 hx).1
  have hl := h.len
  have s0 := h.outer.stored (i * 5 + 1) (.slice none 0 0)
  refine ⟨h.put hi s0.1 s0.2 (fun j hj => by rw [List.getElem?_set_ne (by omega)]) ?_, s0.2⟩
  obtain ⟨vl, vv, g1, g2, g3, g4, g5, g6, g7⟩ := h.inner i x hx
  exact ⟨vl, _, by rw [List.getElem?_set_ne (by omega)]; exact g1, g2, by rw [List.getElem?_set_self (by omega)], World.ownsRow_nil _ _ _ _, by rw [List.getElem?_set_ne (by omega)]; exact g5, by rw [List.getElem?_set_ne (by omega)]; exact g6, by rw [List.getElem?_set_ne (by omega)]; exact g7⟩
end
end Go.Proofs.Ytkiijbbcfbkecaa
