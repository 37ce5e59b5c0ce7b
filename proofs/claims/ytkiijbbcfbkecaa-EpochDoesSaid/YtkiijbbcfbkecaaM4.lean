/- Blocks that a region makes, whatever its order; an entry of the call's own in a box. -/
import Derived.Test.YtkiijbbcfbkecaaF5
import Derived.Test.YtkiijbbcfbkecaaM2
namespace Go.Proofs.Ytkiijbbcfbkecaa
open Go.RowKit
set_option linter.unusedVariables false

theorem blk_new_d {w w' : World} {t : TypeId} {cs : Array Value} (hb : Below (w.alloc (.cells cs t)).drew.heap.size (w.alloc (.cells cs t)).drew w') : Blk w' w.heap.size t cs := Blk.below (w := (w.alloc (.cells cs t)).drew) (Blk.new w t cs) hb (by show w.heap.size < (w.alloc (.cells cs t)).heap.size; simp)
theorem blk_new {w w' : World} {t : TypeId} {cs : Array Value} (hb : Below (w.alloc (.cells cs t)).heap.size (w.alloc (.cells cs t)) w') : Blk w' w.heap.size t cs := (Blk.new w t cs).below hb (by simp)
theorem blk_new2 {w w' : World} {t : TypeId} {cs : Array Value} {o : Obj} (hb : Below ((w.alloc (.cells cs t)).alloc o).heap.size ((w.alloc (.cells cs t)).alloc o) w') : Blk w' w.heap.size t cs := ((Blk.new w t cs).alloc o).below hb (by simp; omega)
theorem blk_new3 {w w' : World} {t : TypeId} {cs : Array Value} {o : Obj} (hb : Below ((w.alloc o).alloc (.cells cs t)).heap.size ((w.alloc o).alloc (.cells cs t)) w') : Blk w' (w.heap.size + 1) t cs := by
  have := (Blk.new (w.alloc o) t cs).below hb (by simp)
  simpa using this
theorem blk_a {w w' : World} {g : Nat} {t : TypeId} {cs : Array Value} {o : Obj} (hb : Below (w.alloc o).heap.size (w.alloc o) w') (h : Blk w g t cs) : Blk w' g t cs := (h.alloc o).below hb (h.alloc o).lt
theorem blk_b {w w' : World} {g : Nat} {t : TypeId} {cs : Array Value} (hb : Below w.heap.size w w') (h : Blk w g t cs) : Blk w' g t cs := h.below hb h.lt
theorem own_ba {w w' : World} {base : Nat} {e : TypeId} {size n : Nat} {v : Value} {xs : List Value} {o : Obj} (hb : Below (w.alloc o).heap.size (w.alloc o) w') (h : w.ownsRow base e size v n xs) : w'.ownsRow base e size v n xs := own_b hb (h.alloc o)

abbrev zbe : Array Value := #[.slice none 0 0, .slice none 0 0, .int .i64 0, .int .i64 0, .bool false]
/-- An entry in a box, of bytes of the call's own. -/
structure EB (w : World) (base g : Nat) (Ax : Option Addr) (cx : Nat) (Ay : Option Addr) (cy : Nat) (x : Ent) : Prop where
  blk : Blk w g 49 #[.slice Ax x.label.length cx, .slice Ay x.value.length cy, .int .i64 x.ver, .int .i64 x.ep, .bool x.er]
  lab : w.ownsRow base 5 1 (.slice Ax x.label.length cx) x.label.length (bvs x.label)
  val : w.ownsRow base 5 1 (.slice Ay x.value.length cy) x.value.length (bvs x.value)
theorem EB.below {w w' : World} {base g : Nat} {Ax : Option Addr} {cx : Nat} {Ay : Option Addr} {cy : Nat} {x : Ent} (h : EB w base g Ax cx Ay cy x) (hb : Below w.heap.size w w') : EB w' base g Ax cx Ay cy x := ⟨blk_b hb h.blk, own_b hb h.lab, own_b hb h.val⟩
theorem EB.new {w : World} {base b1 b2 : Nat} {Ax : Option Addr} {cx : Nat} {Ay : Option Addr} {cy : Nat} {x : Ent} (h1 : w.ownsRow b1 5 1 (.slice Ax x.label.length cx) x.label.length (bvs x.label)) (h2 : w.ownsRow b2 5 1 (.slice Ay x.value.length cy) x.value.length (bvs x.value)) (l1 : base ≤ b1) (l2 : base ≤ b2) :
    EB (w.alloc (.cells #[.slice Ax x.label.length cx, .slice Ay x.value.length cy, .int .i64 x.ver, .int .i64 x.ep, .bool x.er] 49)) base w.heap.size Ax cx Ay cy x :=
  ⟨Blk.new w _ _, own_less (h1.alloc _) l1, own_less (h2.alloc _) l2⟩
theorem EB.store {w : World} {base b1 b2 g : Nat} {Ax : Option Addr} {cx : Nat} {Ay : Option Addr} {cy : Nat} {x : Ent} {x0 x1 x2 x3 x4 : Value} (hb : Blk w g 49 #[x0, x1, x2, x3, x4]) (h1 : w.ownsRow b1 5 1 (.slice Ax x.label.length cx) x.label.length (bvs x.label)) (h2 : w.ownsRow b2 5 1 (.slice Ay x.value.length cy) x.value.length (bvs x.value)) (l1 : base ≤ b1) (l2 : base ≤ b2) :
    EB (set5 w g (.slice Ax x.label.length cx) (.slice Ay x.value.length cy) (.int .i64 x.ver) (.int .i64 x.ep) (.bool x.er)) base g Ax cx Ay cy x :=
  ⟨set5_blk hb _ _ _ _ _, own_less (own_farB h1 (set5_grown _ g _ _ _ _ _) hb (by decide)) l1, own_less (own_farB h2 (set5_grown _ g _ _ _ _ _) hb (by decide)) l2⟩
end Go.Proofs.Ytkiijbbcfbkecaa
