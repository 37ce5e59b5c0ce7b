/- Entries in memory: a slice of entries that reads as a list; a book in a box. -/
import Derived.Test.YtkiijbbcfbkecaaP0
import Derived.Test.YtkiijbbcfbkecaaOwn
namespace Go.Proofs.Ytkiijbbcfbkecaa
open Go.RowKit
set_option linter.unusedVariables false

/-- A slice of entries reads as l. -/
def Ents (w : World) (B : Nat) (A : Option Addr) (n : Nat) (l : List Ent) : Prop :=
  l.length = n ∧ ∃ xs : List Value, Rd w B A (n * 5) xs ∧ ∀ (i : Nat) (x : Ent), l[i]? = some x → ∃ vl vv, xs[i * 5]? = some vl ∧ Bs w B vl x.label ∧ xs[i * 5 + 1]? = some vv ∧ Bs w B vv x.value ∧
    xs[i * 5 + 2]? = some (.int .i64 x.ver) ∧ xs[i * 5 + 3]? = some (.int .i64 x.ep) ∧ xs[i * 5 + 4]? = some (.bool x.er)
theorem below_one (w : World) (o : Obj) : Below w.heap.size w (w.alloc o) := (Below.refl _ w).alloc (Nat.le_refl _) _
theorem keepB {W Wx w5 : World} (k : Below Wx.heap.size Wx w5) (h : Below W.heap.size W Wx) : Below W.heap.size W w5 := h.trans (k.mono h.size)
theorem bel_alloc {W X : World} {o : Obj} (h : Below W.heap.size W X) : Below W.heap.size W (X.alloc o) := h.alloc h.size o
theorem bel_drew {W X : World} (h : Below W.heap.size W X) : Below W.heap.size W X.drew := h.drew
section
variable {w w' : World} {B B' n : Nat} {A : Option Addr} {l : List Ent}
theorem Ents.keep (h : Ents w B A n l) (hk : ∀ p : Addr, p.block < B → w'.cell? p = w.cell? p) : Ents w' B A n l := by
  obtain ⟨h0, xs, h1, h2⟩ := h
  refine ⟨h0, xs, h1.keep hk, fun i x hx => ?_⟩
  obtain ⟨vl, vv, g1, g2, g3, g4, g5, g6, g7⟩ := h2 i x hx
  exact ⟨vl, vv, g1, g2.keep hk, g3, g4.keep hk, g5, g6, g7⟩
theorem Ents.more (h : Ents w B A n l) (hB : B ≤ B') : Ents w B' A n l := by
  obtain ⟨h0, xs, h1, h2⟩ := h
  refine ⟨h0, xs, h1.more hB, fun i x hx => ?_⟩
  obtain ⟨vl, vv, g1, g2, g3, g4, g5, g6, g7⟩ := h2 i x hx
  exact ⟨vl, vv, g1, g2.more hB, g3, g4.more hB, g5, g6, g7⟩
theorem Ents.below (h : Ents w B A n l) (hb : Below B w w') : Ents w' B A n l := h.keep fun _ hp => hb.cell hp
theorem ents_after (h : Ents w w.heap.size A n l) (hb : Below w.heap.size w w') : Ents w' w'.heap.size A n l := (h.below hb).more hb.size
/-- Entry k: its cells. -/
theorem Ents.at_ {k : Nat} (h : Ents w B A n l) (hk : k < n) : ∃ b o x Al cl Av cv, A = some ⟨b, o, none⟩ ∧ b < B ∧ l[k]? = some x ∧ w.cell? ⟨b, o + k * 5, none⟩ = some (.slice Al x.label.length cl) ∧ w.cell? ⟨b, o + k * 5 + 1, none⟩ = some (.slice Av x.value.length cv) ∧
    w.cell? ⟨b, o + k * 5 + 2, none⟩ = some (.int .i64 x.ver) ∧ w.cell? ⟨b, o + k * 5 + 3, none⟩ = some (.int .i64 x.ep) ∧ w.cell? ⟨b, o + k * 5 + 4, none⟩ = some (.bool x.er) ∧
    x.label.length ≤ cl ∧ cl ≤ maxLen ∧ Rd w B Al x.label.length (bvs x.label) ∧ x.value.length ≤ cv ∧ cv ≤ maxLen ∧ Rd w B Av x.value.length (bvs x.value) := by
  obtain ⟨h0, xs, h1, h2⟩ := h
  obtain ⟨⟨b, o, sp⟩, e, hb, hc⟩ := h1.2 (by omega)
  have hx : l[k]? = some (l[k]'(by omega)) := List.getElem?_eq_getElem _
  obtain ⟨vl, vv, g1, ⟨Al, cl, rfl, p1, p2, p3⟩, g3, ⟨Av, cv, rfl, q1, q2, q3⟩, g5, g6, g7⟩ := h2 k _ hx
  have c1 := hc _ _ g1
  have c2 := hc _ _ g3
  have c3 := hc _ _ g5
  have c4 := hc _ _ g6
  have c5 := hc _ _ g7
  have hx0 : l[0]? = some (l[0]'(by omega)) := List.getElem?_eq_getElem _
  obtain ⟨v0, _, k0, _⟩ := h2 0 _ hx0
  have hsp : sp = none := by simpa [Addr.add] using World.cell?_spot (hc _ _ k0)
  subst hsp
  rw [Addr.add_lit] at c1 c2 c3 c4 c5
  exact ⟨b, o, _, Al, cl, Av, cv, e, hb, hx, c1, c2, c3, c4, c5, p1, p2, p3, q1, q2, q3⟩
/-- A beginning of entries. -/
theorem Ents.take_ {k : Nat} (h : Ents w B A n l) (hk : k ≤ n) : Ents w B A k (l.take k) := by
  obtain ⟨h0, xs, h1, h2⟩ := h
  refine ⟨by rw [List.length_take]; omega, xs.take (k * 5), ⟨by rw [List.length_take, h1.1]; omega, fun hn => ?_⟩, fun i x hx => ?_⟩
  · obtain ⟨ad, e, hb, hc⟩ := h1.2 (by omega)
    refine ⟨ad, e, hb, fun j u hu => hc j u ?_⟩
    have hj : j < k * 5 := by have := (List.getElem?_eq_some_iff.1 hu).1; rw [List.length_take] at this; omega
    rwa [List.getElem?_take_of_lt hj] at hu
  · have hi : i < k := by have := (List.getElem?_eq_some_iff.1 hx).1; rw [List.length_take] at this; omega
    rw [List.getElem?_take_of_lt hi] at hx
    rw [List.getElem?_take_of_lt (by omega), List.getElem?_take_of_lt (by omega), List.getElem?_take_of_lt (by omega), List.getElem?_take_of_lt (by omega), List.getElem?_take_of_lt (by omega)]
    exact h2 i x hx
end
/-- An entry's value. -/
abbrev env (Al : Option Addr) (nl cl : Nat) (Av : Option Addr) (nv cv : Nat) (ver ep : Int) (er : Bool) : Value := .agg #[.slice Al nl cl, .slice Av nv cv, .int .i64 ver, .int .i64 ep, .bool er]
/-- A book's value. -/
abbrev bkv (A : Option Addr) (n c : Nat) (eps : Int) : Value := .agg #[.slice A n c, .int .i64 eps]

/-- A book in a box. -/
structure BBox (w : World) (b : Nat) (A : Option Addr) (c : Nat) (k : Bk) : Prop where
  blk : Blk w b 25 #[.slice A k.ents.length c, .int .i64 k.eps]
  ents : Ents w w.heap.size A k.ents.length k.ents
  cap : k.ents.length ≤ c
  cm : c ≤ maxLen
theorem BBox.after {w w' : World} {b : Nat} {A : Option Addr} {c : Nat} {k : Bk} (h : BBox w b A c k) (hb : Below w.heap.size w w') : BBox w' b A c k := ⟨h.blk.below hb h.blk.lt, ents_after h.ents hb, h.cap, h.cm⟩
theorem BBox.alloc {w : World} {b : Nat} {A : Option Addr} {c : Nat} {k : Bk} (h : BBox w b A c k) (o : Obj) : BBox (w.alloc o) b A c k := h.after (below_one w o)
theorem BBox.arg {w : World} {A : Option Addr} {c : Nat} {k : Bk} (hd : Ents w w.heap.size A k.ents.length k.ents) (h1 : k.ents.length ≤ c) (h2 : c ≤ maxLen) : BBox (w.alloc (.cells #[.slice A k.ents.length c, .int .i64 k.eps] 25)) w.heap.size A c k :=
  ⟨Blk.new w _ _, ents_after hd (below_one w _), h1, h2⟩
theorem BBox.cells {w : World} {b : Nat} {A : Option Addr} {c : Nat} {k : Bk} (h : BBox w b A c k) : w.cell? ⟨b, 0, none⟩ = some (.slice A k.ents.length c) ∧ w.cell? ⟨b, 1, none⟩ = some (.int .i64 k.eps) := ⟨h.blk.cell 0, h.blk.cell 1⟩
end Go.Proofs.Ytkiijbbcfbkecaa
