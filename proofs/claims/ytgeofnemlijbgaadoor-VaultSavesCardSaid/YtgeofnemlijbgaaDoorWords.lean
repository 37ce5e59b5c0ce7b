/-
  Words for memory: slices that read as lists of bytes, blocks that are known whole. Plain theorems about worlds, over any program; after the guide's extra-words page.
-/
import Derived.Below
import Derived.Laws.OwnMore
import Derived.Laws.Rows
import Derived.Deep.AppendLies
import Derived.Deep.Draws
import Derived.Maps.AppendAt
import Derived.WalkKit
namespace Go.Proofs.YtgeofnemlijbgaaDoor
open Go.RowKit

/-- A byte as a cell's value. -/
def bv (b : UInt8) : Value := .int .u8 (b.toNat : Int)
def bvs (l : List UInt8) : List Value := l.map bv

theorem block_of_add (a : Addr) (n : Nat) : (a.add n).block = a.block := by unfold Addr.add; split <;> rfl
theorem add_of_add (a : Addr) (i j : Nat) : (a.add i).add j = a.add (i + j) := by
  unfold Addr.add
  by_cases hi : i = 0 <;> by_cases hj : j = 0 <;> simp [hi, hj, Nat.add_assoc]

/-- The slice value '.slice A n c' holds the cells xs (one each element), in blocks below B. -/
def Rd (w : World) (B : Nat) (A : Option Addr) (n : Nat) (xs : List Value) : Prop :=
  xs.length = n ∧ (0 < n → ∃ ad, A = some ad ∧ ad.block < B ∧ ∀ j u, xs[j]? = some u → w.cell? (ad.add j) = some u)

/-- A byte slice's value reads as l. -/
def Bs (w : World) (B : Nat) (v : Value) (l : List UInt8) : Prop :=
  ∃ A c, v = .slice A l.length c ∧ l.length ≤ c ∧ c ≤ maxLen ∧ Rd w B A l.length (bvs l)

/-- A slice of byte slices reads as ss. -/
def Bss (w : World) (B : Nat) (A : Option Addr) (n : Nat) (ss : List (List UInt8)) : Prop :=
  ss.length = n ∧ ∃ vs : List Value, Rd w B A n vs ∧ ∀ (i : Nat) (v : Value), vs[i]? = some v → ∃ l, ss[i]? = some l ∧ Bs w B v l

section
variable {w w' : World} {B B' n : Nat} {A : Option Addr} {xs : List Value} {v : Value} {l : List UInt8} {ss : List (List UInt8)}
theorem Rd.none_ (A : Option Addr) : Rd w B A 0 [] := ⟨rfl, fun h => absurd h (by omega)⟩
theorem Rd.at_ {k : Nat} (h : Rd w B A n xs) (hk : k < n) : ∃ ad u, A = some ad ∧ ad.block < B ∧ xs[k]? = some u ∧ w.cell? (ad.add k) = some u := by
  obtain ⟨ad, e, hb, hc⟩ := h.2 (by omega)
  have hl : k < xs.length := by have := h.1; omega
  exact ⟨ad, xs[k], e, hb, List.getElem?_eq_getElem hl, hc k _ (List.getElem?_eq_getElem hl)⟩
theorem Rd.keep (h : Rd w B A n xs) (hk : ∀ p : Addr, p.block < B → w'.cell? p = w.cell? p) : Rd w' B A n xs :=
  ⟨h.1, fun hn => by
    obtain ⟨ad, e, hb, hc⟩ := h.2 hn
    exact ⟨ad, e, hb, fun j u hu => (hk _ (by rw [block_of_add]; exact hb)).trans (hc j u hu)⟩⟩
theorem Rd.more (h : Rd w B A n xs) (hB : B ≤ B') : Rd w B' A n xs :=
  ⟨h.1, fun hn => by
    obtain ⟨ad, e, hb, hc⟩ := h.2 hn
    exact ⟨ad, e, by omega, hc⟩⟩
theorem Bs.keep (h : Bs w B v l) (hk : ∀ p : Addr, p.block < B → w'.cell? p = w.cell? p) : Bs w' B v l := by
  obtain ⟨A, c, hv, h1, h2, hr⟩ := h
  exact ⟨A, c, hv, h1, h2, hr.keep hk⟩
theorem Bs.more (h : Bs w B v l) (hB : B ≤ B') : Bs w B' v l := by
  obtain ⟨A, c, hv, h1, h2, hr⟩ := h
  exact ⟨A, c, hv, h1, h2, hr.more hB⟩
theorem Bss.keep (h : Bss w B A n ss) (hk : ∀ p : Addr, p.block < B → w'.cell? p = w.cell? p) : Bss w' B A n ss := by
  obtain ⟨h0, vs, h1, h2⟩ := h
  refine ⟨h0, vs, h1.keep hk, fun i v hv => ?_⟩
  obtain ⟨l, hl, hb⟩ := h2 i v hv
  exact ⟨l, hl, hb.keep hk⟩
theorem Bss.more (h : Bss w B A n ss) (hB : B ≤ B') : Bss w B' A n ss := by
  obtain ⟨h0, vs, h1, h2⟩ := h
  refine ⟨h0, vs, h1.more hB, fun i v hv => ?_⟩
  obtain ⟨l, hl, hb⟩ := h2 i v hv
  exact ⟨l, hl, hb.more hB⟩
theorem Rd.below (h : Rd w B A n xs) (hb : Below B w w') : Rd w' B A n xs := h.keep fun _ hp => hb.cell hp
theorem Bs.below (h : Bs w B v l) (hb : Below B w w') : Bs w' B v l := h.keep fun _ hp => hb.cell hp
theorem Bss.below (h : Bss w B A n ss) (hb : Below B w w') : Bss w' B A n ss := h.keep fun _ hp => hb.cell hp
/-- The cell of sector k. -/
theorem Bss.at_ {k : Nat} (h : Bss w B A n ss) (hk : k < n) : ∃ ad Ai ci l, A = some ad ∧ ad.block < B ∧ ss[k]? = some l ∧ w.cell? (ad.add k) = some (.slice Ai l.length ci) ∧ l.length ≤ ci ∧ ci ≤ maxLen ∧ Rd w B Ai l.length (bvs l) := by
  obtain ⟨h0, vs, h1, h2⟩ := h
  obtain ⟨ad, u, e, hb, hu, hc⟩ := h1.at_ hk
  obtain ⟨l, hl, Ai, ci, rfl, g1, g2, g3⟩ := h2 k u hu
  exact ⟨ad, Ai, ci, l, e, hb, hl, hc, g1, g2, g3⟩
theorem bvs_get {k : Nat} (h : k < l.length) : (bvs l)[k]? = some (.int .u8 ((l[k]).toNat : Int)) := by
  simp [bvs, bv, h]
theorem bvs_length : (bvs l).length = l.length := by simp [bvs]
end

/-- Block g is just the cells cs of element type t, none frozen. -/
def Blk (w : World) (g : Nat) (t : TypeId) (cs : Array Value) : Prop := w.heap[g]? = some (.cells cs t (0, 0))

section
variable {w w' : World} {g : Nat} {t : TypeId} {cs : Array Value}
theorem Blk.lt (h : Blk w g t cs) : g < w.heap.size := by
  rcases Nat.lt_or_ge g w.heap.size with hlt | hge
  · exact hlt
  · unfold Blk at h; rw [Array.getElem?_eq_none hge] at h; cases h
theorem Blk.cell (h : Blk w g t cs) (i : Nat) : w.cell? ⟨g, i, none⟩ = cs[i]? := cell_of_row w g i cs t (0, 0) h
theorem Blk.frozen (h : Blk w g t cs) (i : Nat) : w.frozen? ⟨g, i, none⟩ = false := by
  unfold Blk at h
  simp [World.frozen?, h]
theorem Blk.new (w : World) (t : TypeId) (cs : Array Value) : Blk (w.alloc (.cells cs t)) w.heap.size t cs := heap_alloc_new w _
theorem Blk.drew (h : Blk w g t cs) : Blk w.drew g t cs := h
theorem Blk.drewN (h : Blk w g t cs) (n : Nat) : Blk (w.drewN n) g t cs := h
theorem Blk.alloc (h : Blk w g t cs) (o : Obj) : Blk (w.alloc o) g t cs := (Below.heap_alloc w o g h.lt).trans h
theorem Blk.set_ (h : Blk w g t cs) (i : Nat) (u : Value) : Blk (w.setCell ⟨g, i, none⟩ u) g t (cs.setIfInBounds i u) := by
  unfold Blk at h ⊢
  simp [World.setCell, Array.getElem?_modify, h]
theorem Blk.far (h : Blk w g t cs) {p : Addr} (hp : g ≠ p.block) (u : Value) : Blk (w.setCell p u) g t cs := (Below.heap_setCell w p u g hp).trans h
theorem Blk.below {B : Nat} (h : Blk w g t cs) (hb : Below B w w') (hg : g < B) : Blk w' g t cs := (hb.block g hg).trans h
theorem Blk.grown {row : Option Nat} (h : Blk w g t cs) (hb : w.grownBy w' row) (hg : some g ≠ row) : Blk w' g t cs := (hb.block g h.lt hg).trans h
end

end Go.Proofs.YtgeofnemlijbgaaDoor
