/- Two rows of bytes that a region makes side by side; what an append of an entry leaves. -/
import Derived.Test.YtkiijbbcfbkecaaM5
import Derived.Test.YtkiijbbcfbkecaaN2
import Derived.Test.YtkiijbbcfbkecaaJ2
namespace Go.Proofs.Ytkiijbbcfbkecaa
open Go.RowKit
set_option linter.unusedVariables false

/-- Two rows of bytes of the call's own, each in a block of its own. -/
structure TwoR (w : World) (base : Nat) (v1 : Value) (n1 : Nat) (xs1 : List Value) (v2 : Value) (n2 : Nat) (xs2 : List Value) : Prop where
  a : w.ownsRow base 5 1 v1 n1 xs1
  b : w.ownsRow base 5 1 v2 n2 xs2
  ne : v1.ownBlock = none ∨ v1.ownBlock ≠ v2.ownBlock
section
variable {w w' : World} {base n1 n2 : Nat} {v1 v2 v' : Value} {xs1 xs2 : List Value}
theorem own_ne_new {e : TypeId} {size n : Nat} {v : Value} {xs : List Value} (h : w.ownsRow base e size v n xs) : v.ownBlock ≠ some w.heap.size := by
  intro hb
  obtain ⟨_, _, _, hlt⟩ := own_block h hb
  omega
theorem made_row (w : World) (base : Nat) (hb : base ≤ w.heap.size) : (w.alloc (.cells #[] 5)).ownsRow base 5 1 (.slice (some ⟨w.heap.size, 0, none⟩) 0 0) 0 [] := World.ownsRow_made w #[] 0 hb (Nat.zero_le _) rfl
theorem TwoR.new_b (h : w.ownsRow base 5 1 v1 n1 xs1) (hb : base ≤ w.heap.size) : TwoR (w.alloc (.cells #[] 5)) base v1 n1 xs1 (.slice (some ⟨w.heap.size, 0, none⟩) 0 0) 0 [] :=
  ⟨h.alloc _, made_row w base hb, .inr (own_ne_new h)⟩
theorem TwoR.new_a (h : w.ownsRow base 5 1 v2 n2 xs2) (hb : base ≤ w.heap.size) : TwoR (w.alloc (.cells #[] 5)) base (.slice (some ⟨w.heap.size, 0, none⟩) 0 0) 0 [] v2 n2 xs2 :=
  ⟨made_row w base hb, h.alloc _, .inr (fun e => own_ne_new h e.symm)⟩
theorem TwoR.app_a {m : Nat} {ys : List Value} (h : TwoR w base v1 n1 xs1 v2 n2 xs2) (ho : w'.ownsRow base 5 1 v' m ys) (hg : w.grownBy w' v1.ownBlock) (hat : v'.ownBlock = v1.ownBlock ∨ v'.ownBlock = some w.heap.size) : TwoR w' base v' m ys v2 n2 xs2 := by
  refine ⟨ho, h.b.kept hg ?_, ?_⟩
  · rcases h.ne with h1 | h1
    · rcases hb : v2.ownBlock with _ | g
      · exact .inl rfl
      · exact .inr (by rw [h1]; simp)
    · exact .inr h1.symm
  · rcases hat with h1 | h1
    · rw [h1]; exact h.ne
    · exact .inr (by rw [h1]; exact fun e => own_ne_new h.b e.symm)
theorem TwoR.app_b {m : Nat} {ys : List Value} (h : TwoR w base v1 n1 xs1 v2 n2 xs2) (ho : w'.ownsRow base 5 1 v' m ys) (hg : w.grownBy w' v2.ownBlock) (hat : v'.ownBlock = v2.ownBlock ∨ v'.ownBlock = some w.heap.size) : TwoR w' base v1 n1 xs1 v' m ys := by
  refine ⟨h.a.kept hg h.ne, ho, ?_⟩
  rcases hat with h1 | h1
  · rw [h1]; exact h.ne
  · exact .inr (by rw [h1]; exact own_ne_new h.a)
theorem TwoR.alloc (h : TwoR w base v1 n1 xs1 v2 n2 xs2) (o : Obj) : TwoR (w.alloc o) base v1 n1 xs1 v2 n2 xs2 := ⟨h.a.alloc o, h.b.alloc o, h.ne⟩
/-- A row that is made anew in W grows: what stood in W stands. -/
theorem bel_app {W : World} {e : TypeId} {size n b : Nat} {v : Value} {xs : List Value} (hB : Below W.heap.size W w) (ho : w.ownsRow b e size v n xs) (hb : W.heap.size ≤ b) (hg : w.grownBy w' v.ownBlock) : Below W.heap.size W w' :=
  hB.grown hg hB.size (fun k ek => by obtain ⟨_, _, h, _⟩ := own_block ho ek; omega)
theorem rd_one {B : Nat} {A : Option Addr} {l : List UInt8} (h : Rd w B A l.length (bvs l)) : Rd w B A (l.length * 1) (bvs l) := by rw [Nat.mul_one]; exact h
theorem rd_bel {W : World} {A : Option Addr} {l : List UInt8} (h : Rd W W.heap.size A l.length (bvs l)) (hB : Below W.heap.size W w) : Rd w W.heap.size A (l.length * 1) (bvs l) := rd_one (h.below hB)
end
/-- An entry is appended: what stands where. -/
theorem app_close {w wr w6 w9 : World} {base bo n0 A0c c9 cx cy : Nat} {A0 A9 Ax Ay : Option Addr} {xs : List Value} {es : List Ent} {x : Ent} {o : Obj} {y : Value} (hn0 : n0 ≤ base) (hbo : n0 ≤ bo) (hbw : base ≤ wr.heap.size)
    (hB : Below n0 w wr) (hO : OwnE wr base (.slice A0 es.length A0c) xs es) (hB6 : Below wr.heap.size wr w6)
    (h6 : TwoR w6 wr.heap.size (.slice Ax x.label.length cx) x.label.length (bvs x.label) (.slice Ay x.value.length cy) x.value.length (bvs x.value))
    (b6 : Blk wr bo 25 #[.slice A0 es.length A0c, y])
    (hown9 : w9.ownsRow base 49 5 (.slice A9 (es.length + 1) c9) (es.length + 1) (xs ++ [.slice Ax x.label.length cx, .slice Ay x.value.length cy, .int .i64 x.ver, .int .i64 x.ep, .bool x.er]))
    (hgr9 : (w6.alloc o).grownBy w9 (Value.slice A0 es.length A0c).ownBlock) :
    OwnE (w9.setCell ⟨bo, 0, none⟩ (.slice A9 (es.length + 1) c9)) base (.slice A9 (es ++ [x]).length c9) (xs ++ [.slice Ax x.label.length cx, .slice Ay x.value.length cy, .int .i64 x.ver, .int .i64 x.ep, .bool x.er]) (es ++ [x]) ∧
    Below n0 w (w9.setCell ⟨bo, 0, none⟩ (.slice A9 (es.length + 1) c9)) ∧ Blk (w9.setCell ⟨bo, 0, none⟩ (.slice A9 (es.length + 1) c9)) bo 25 #[.slice A9 (es ++ [x]).length c9, y] ∧
    (∀ g cs, g ≠ bo → Blk wr g 25 cs → Blk (w9.setCell ⟨bo, 0, none⟩ (.slice A9 (es.length + 1) c9)) g 25 cs) ∧ wr.heap.size ≤ (w9.setCell ⟨bo, 0, none⟩ (.slice A9 (es.length + 1) c9)).heap.size := by
  have hl : (es ++ [x]).length = es.length + 1 := by simp
  have o6 := hO.below hB6
  have p9 := (o6.alloc o).push (x := x) (own_less (h6.a.alloc o) hbw) (own_less (h6.b.alloc o) hbw) hown9 hgr9
  have far : ∀ g cs, Blk wr g 25 cs → Blk w9 g 25 cs := fun g cs hb => blk_far hgr9 ((hb.below hB6 hb.lt).alloc o) (o6.outer.alloc o) (by decide)
  have b9 := far bo _ b6
  have hs9 : wr.heap.size ≤ w9.heap.size := Nat.le_trans (Nat.le_trans hB6.size (by simp)) hgr9.size
  rw [hl]
  refine ⟨p9.grownB (grown_setCell w9 ⟨bo, 0, none⟩ _) b9 (by decide) (by decide), ?_, ?_, fun g cs hg hb => ?_, by simpa using hs9⟩
  · have h1 : Below n0 w (w6.alloc o) := (hB.trans (hB6.mono (Nat.le_trans hn0 hbw))).alloc (Nat.le_trans (Nat.le_trans hn0 hbw) hB6.size) o
    have h2 := h1.grown hgr9 (by simp; have := hB6.size; omega) (fun k e => by obtain ⟨_, _, h, _⟩ := own_block o6.outer e; omega)
    exact h2.setCell (p := ⟨bo, 0, none⟩) hbo _
  · have := b9.set_ 0 (.slice A9 (es.length + 1) c9)
    simpa using this
  · exact (far g cs hb).far (p := ⟨bo, 0, none⟩) hg _
/-- The boxes that stood, behind the append. -/
theorem blk_app {w6 w9 : World} {g base n size : Nat} {e t : TypeId} {V : Value} {xs : List Value} {cs : Array Value} {wr : World} (hg : w6.grownBy w9 V.ownBlock) (hb : Blk w6 g t cs) (ho : wr.ownsRow base e size V n xs) (hge : wr.heap.size ≤ g) : Blk w9 g t cs :=
  hb.grown hg (fun h => by obtain ⟨_, _, _, hlt⟩ := own_block ho h.symm; omega)
end Go.Proofs.Ytkiijbbcfbkecaa
