/- What the laws' walks share. -/
import Derived.Test.YtgeofnemlijbgaaE10
import Derived.Test.YtgeofnemlijbgaaE1
import Derived.Test.YtgeofnemlijbgaaE4
import Derived.Test.YtgeofnemlijbgaaE5
import Derived.Test.YtgeofnemlijbgaaE6
import Derived.Test.YtgeofnemlijbgaaE7
import Derived.Test.YtgeofnemlijbgaaPlain2
namespace Go.Proofs.Ytgeofnemlijbgaa
open Go.RowKit
set_option linter.unusedVariables false

theorem ret_tt {b : Bool} (h : b = true) : Ending.returned (.bool b) = .returned (.bool true) := by rw [h]
theorem sm_of_small {ss : List (List UInt8)} (h : smallB ss = true) : Sm ss := ⟨by have := (smallB_out h).1; omega, (smallB_out h).2⟩
/-- A disk that came in, in its box. -/
theorem DBox.arg {w : World} {A : Option Addr} {c : Nat} {d : Dsk} (hd : Bss w w.heap.size A d.secs.length d.secs) (h1 : d.secs.length ≤ c) (h2 : c ≤ maxLen) : DBox (w.alloc (.cells #[.slice A d.secs.length c, .int .i64 d.left, .int .i64 d.torn, .bool d.off, .int .i64 d.done] 24)) w.heap.size A c d :=
  ⟨Blk.new w _ _, bss_after hd (below_one w _), h1, h2⟩
section
variable {A A' : Option Addr} {c c' : Nat} {d dr : Dsk} {er : Int} {Al : Option Addr} {nl cl : Nat} {l : List Wr} {w : World}
theorem do_r (hr : doD d l = (dr, er)) (hd : Bss w w.heap.size A d.secs.length d.secs) (hs : Sm d.secs) (hl : Wrs w w.heap.size Al nl l) (hcl : nl ≤ 10000) (hli : d.left ≤ 9223372036854775807) :
    Calls Try.prog 22 #[dvD A c d, .slice Al nl cl] w (DRet w dr fun v => .tuple #[v, .int .i64 er]) := by
  have := do_any A c d Al nl cl l w hd hs hl hcl hli
  rw [hr] at this
  exact this
theorem rdo_r (hr : doD d l = (dr, er)) (hd : Bss w w.heap.size A d.secs.length d.secs) (hs : Sm d.secs) (hl : Wrs w w.heap.size Al nl l) (hcl : nl ≤ 10000) (hli : d.left ≤ 9223372036854775807) :
    Calls Try.prog 23 #[dvD A c d, .slice Al nl cl] w (DRet w dr fun v => .tuple #[v, .int .i64 er]) := by
  have := rdo_any A c d Al nl cl l w hd hs hl hcl hli
  rw [hr] at this
  exact this
end
theorem small_wr {d : Dsk} (l : List Wr) (h : smallB d.secs = true) : Sm (doD d l).1.secs := by
  cases hc : checkB d.secs
  · simp only [doD, hc, Bool.false_eq_true, if_false]; exact sm_of_small h
  · exact smOf (doD_check l hc)
end Go.Proofs.Ytgeofnemlijbgaa
