/- The document's New. -/
import Derived.Test.YtgeofnemlijbgaaDoorD7
import Derived.Test.YtgeofnemlijbgaaDoorD6
namespace Go.Proofs.YtgeofnemlijbgaaDoor
open Go.RowKit
set_option linter.unusedVariables false

theorem grown_drew {a w : World} {row : Option Nat} (h : a.grownBy w row) : a.grownBy w.drew row := ⟨h.os, h.tape, h.output, h.size, h.block⟩
/-- A slice of one row, made and appended. -/
theorem push_own {w w1 w2 w3 : World} {base : Nat} {V V' v' : Value} {vs : List Value} {ss : List (List UInt8)} {l' : List UInt8} (hO : OwnS w base V vs ss) (hg1 : w.grownBy w1 none) (ho : w1.ownsRow base 5 1 v' l'.length (bvs l')) (hf : ∀ g, v'.ownBlock = some g → w.heap.size ≤ g)
    (hg2 : w1.grownBy w2 none) (hV : w3.ownsRow base 25 1 V' (ss.length + 1) (vs ++ [v'])) (hg3 : w2.grownBy w3 V.ownBlock) : OwnS w3 base V' (vs ++ [v']) (ss ++ [l']) :=
  ((hO.grown0 hg1).grown0 hg2).push (ho.kept hg2 (by rcases v'.ownBlock with _ | g <;> simp)) (hO.fresh hf) hV hg3

/-- A box ahead of the rows stays. -/
theorem box_grown {w w3 : World} {base g n : Nat} {e t : TypeId} {V : Value} {xs : List Value} {cs : Array Value} (hg : w.grownBy w3 V.ownBlock) (hb : Blk w g t cs) (ho : w.ownsRow base e 1 V n xs) (hlt : g < base) : Blk w3 g t cs :=
  hb.grown hg (fun e => by obtain ⟨_, _, h, _⟩ := own_block ho e.symm; omega)

end Go.Proofs.YtgeofnemlijbgaaDoor
