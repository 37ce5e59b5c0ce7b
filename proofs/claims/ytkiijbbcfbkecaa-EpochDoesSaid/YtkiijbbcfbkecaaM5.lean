/- Books of the call's own in boxes; literal bytes in blocks, whatever the order of a region. -/
import Derived.Test.YtkiijbbcfbkecaaK4
namespace Go.Proofs.Ytkiijbbcfbkecaa
open Go.RowKit
set_option linter.unusedVariables false

/-- A book of the call's own in a box. -/
structure OBox (w : World) (b base : Nat) (A : Option Addr) (c : Nat) (xs : List Value) (k : Bk) : Prop where
  blk : Blk w b 25 #[.slice A k.ents.length c, .int .i64 k.eps]
  own : OwnE w base (.slice A k.ents.length c) xs k.ents
section
variable {w w' : World} {b base : Nat} {A : Option Addr} {c : Nat} {xs : List Value} {k : Bk}
theorem OBox.box (h : OBox w b base A c xs k) : BBox w b A c k := by
  obtain ⟨A', c', e, h1, h2⟩ := h.own.form
  simp only [Value.slice.injEq] at e
  obtain ⟨_, _, rfl⟩ := e
  exact ⟨h.blk, h.own.ents, h1, h2⟩
theorem OBox.after (h : OBox w b base A c xs k) (hb : Below w.heap.size w w') : OBox w' b base A c xs k := ⟨h.blk.below hb h.blk.lt, h.own.below hb⟩
theorem OBox.alloc (h : OBox w b base A c xs k) (o : Obj) : OBox (w.alloc o) b base A c xs k := h.after (below_one w o)
theorem OBox.store {x y : Value} {b0 : Nat} (hb : Blk w b 25 #[x, y]) (h : OwnE w b0 (.slice A k.ents.length c) xs k.ents) (h0 : base ≤ b0) : OBox ((w.setCell ⟨b, 0, none⟩ (.slice A k.ents.length c)).setCell ⟨b, 1, none⟩ (.int .i64 k.eps)) b base A c xs k :=
  ⟨set2_blk hb _ _, (h.grownB (set2_grown _ _ _ _) hb (by decide) (by decide)).less h0⟩
theorem OBox.far {g : Nat} {cs : Array Value} (h : OBox w b base A c xs k) (hg : Blk w g 25 cs) (hne : b ≠ g) (x y : Value) : OBox ((w.setCell ⟨g, 0, none⟩ x).setCell ⟨g, 1, none⟩ y) b base A c xs k :=
  ⟨(h.blk.far (p := ⟨g, 0, none⟩) hne x).far (p := ⟨g, 1, none⟩) hne y, h.own.grownB (set2_grown _ _ _ _) hg (by decide) (by decide)⟩
theorem OBox.new {b0 : Nat} (h : OwnE w b0 (.slice A k.ents.length c) xs k.ents) (h0 : base ≤ b0) : OBox (w.alloc (.cells #[.slice A k.ents.length c, .int .i64 k.eps] 25)) w.heap.size base A c xs k := ⟨Blk.new w _ _, (h.alloc _).less h0⟩
end
theorem OBox.nil (w : World) (base : Nat) : OBox (w.alloc (.cells zbk 25)) w.heap.size base none 0 [] aB0 :=
  ⟨Blk.new w _ _, ⟨World.ownsRow_nil _ _ _ _, fun i x hx => by simp [aB0] at hx⟩⟩

section
variable {w : World} {C : Array Value} {o o' : Obj} {l : List UInt8}
theorem rdC (hC : C.toList = bvs l) (w : World) : Rd (w.alloc (.cells C 5)) (w.alloc (.cells C 5)).heap.size (some ⟨w.heap.size, 0, none⟩) l.length (bvs l) :=
  ⟨bvs_length, fun _ => ⟨_, rfl, by simp, fun j u hu => by
    rw [Addr.add_lit, Nat.zero_add, cell_mark, ← hu, ← hC, Array.getElem?_toList]⟩⟩
theorem rd2a (hC : C.toList = bvs l) : Rd ((w.alloc (.cells C 5)).alloc o).drew ((w.alloc (.cells C 5)).alloc o).drew.heap.size (some ⟨w.heap.size, 0, none⟩) l.length (bvs l) := rd_after (rdC hC w) (below_one _ _).drew
theorem rd2b (hC : C.toList = bvs l) : Rd ((w.alloc o).alloc (.cells C 5)).drew ((w.alloc o).alloc (.cells C 5)).drew.heap.size (some ⟨w.heap.size + 1, 0, none⟩) l.length (bvs l) := by
  have := rdC hC (w.alloc o)
  rw [World.size_alloc w] at this
  exact this
theorem rdn2b (hC : C.toList = bvs l) : Rd ((w.alloc o).alloc (.cells C 5)) ((w.alloc o).alloc (.cells C 5)).heap.size (some ⟨w.heap.size + 1, 0, none⟩) l.length (bvs l) := by
  have := rdC hC (w.alloc o)
  rw [World.size_alloc w] at this
  exact this
theorem rd3a (hC : C.toList = bvs l) : Rd (((w.alloc (.cells C 5)).alloc o).alloc o').drew (((w.alloc (.cells C 5)).alloc o).alloc o').drew.heap.size (some ⟨w.heap.size, 0, none⟩) l.length (bvs l) := rd_after (rdC hC w) (bel_alloc (below_one _ _)).drew
theorem rd3b (hC : C.toList = bvs l) : Rd (((w.alloc o).alloc (.cells C 5)).alloc o').drew (((w.alloc o).alloc (.cells C 5)).alloc o').drew.heap.size (some ⟨w.heap.size + 1, 0, none⟩) l.length (bvs l) := rd_after (rdn2b (w := w) (o := o) hC) (below_one _ _).drew
theorem rd3c (hC : C.toList = bvs l) : Rd (((w.alloc o).alloc o').alloc (.cells C 5)).drew (((w.alloc o).alloc o').alloc (.cells C 5)).drew.heap.size (some ⟨w.heap.size + 1 + 1, 0, none⟩) l.length (bvs l) := by
  have := rd2b (w := w.alloc o) (o := o') hC
  rw [World.size_alloc w] at this
  exact this
theorem rdn2a (hC : C.toList = bvs l) : Rd ((w.alloc (.cells C 5)).alloc o) ((w.alloc (.cells C 5)).alloc o).heap.size (some ⟨w.heap.size, 0, none⟩) l.length (bvs l) := rd_after (rdC hC w) (below_one _ _)
end
section
variable {w w' : World} {t : TypeId} {cs : Array Value} {o o' : Obj}
theorem blk3a (hb : Below (((w.alloc (.cells cs t)).alloc o).alloc o').drew.heap.size (((w.alloc (.cells cs t)).alloc o).alloc o').drew w') : Blk w' w.heap.size t cs :=
  Blk.below (w := (((w.alloc (.cells cs t)).alloc o).alloc o').drew) (((Blk.new w t cs).alloc o).alloc o') hb (by show w.heap.size < (((w.alloc (.cells cs t)).alloc o).alloc o').heap.size; simp; omega)
theorem blk3b (hb : Below (((w.alloc o).alloc (.cells cs t)).alloc o').drew.heap.size (((w.alloc o).alloc (.cells cs t)).alloc o').drew w') : Blk w' (w.heap.size + 1) t cs := by
  have := Blk.below (w := (((w.alloc o).alloc (.cells cs t)).alloc o').drew) ((Blk.new (w.alloc o) t cs).alloc o') hb (by show (w.alloc o).heap.size < (((w.alloc o).alloc (.cells cs t)).alloc o').heap.size; simp)
  simpa using this
theorem blk3c (hb : Below (((w.alloc o).alloc o').alloc (.cells cs t)).drew.heap.size (((w.alloc o).alloc o').alloc (.cells cs t)).drew w') : Blk w' (w.heap.size + 1 + 1) t cs := by
  have := Blk.below (w := (((w.alloc o).alloc o').alloc (.cells cs t)).drew) (Blk.new ((w.alloc o).alloc o') t cs) hb (by show ((w.alloc o).alloc o').heap.size < (((w.alloc o).alloc o').alloc (.cells cs t)).heap.size; simp)
  simpa using this
end
end Go.Proofs.Ytkiijbbcfbkecaa
