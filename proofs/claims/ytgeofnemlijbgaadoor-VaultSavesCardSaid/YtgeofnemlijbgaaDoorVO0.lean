/- Contracts, told by what they hand back. -/
import Derived.Test.YtgeofnemlijbgaaDoorVM
import Derived.Test.YtgeofnemlijbgaaDoorVE1
import Derived.Test.YtgeofnemlijbgaaDoorVE7
namespace Go.Proofs.YtgeofnemlijbgaaDoor
open Go.RowKit
set_option linter.unusedVariables false

section
variable {A : Option Addr} {c b : Nat} {d x : Dsk} {w : World} {At : Option Addr} {ct : Nat} {t : List UInt8}
theorem load_r {r : List UInt8 × Int × Int} (hr : loadD d = r) (h : DBox w b A c d) (hs : Sm d.secs) : Calls Tryd.prog 18 #[dvD A c d] w (LRet w r) := by
  rw [← hr]; exact load_any A c d w h.secs h.cap h.cm hs
theorem scrub_r {r : List Wr × Int} (hr : scrubD d = r) (h : DBox w b A c d) (hs : Sm d.secs) : Calls Tryd.prog 14 #[dvD A c d] w (WRet w r) := by
  rw [← hr]; exact scrub_any A c d w h.secs h.cap h.cm hs
theorem plan_r {r : List Wr × Int} (hr : planD d t = r) (h : DBox w b A c d) (hs : Sm d.secs) (ht : Rd w w.heap.size At t.length (bvs t)) (htc : t.length ≤ ct) (htl : t.length ≤ 5000) : Calls Tryd.prog 21 #[dvD A c d, .slice At t.length ct] w (WRet w r) := by
  rw [← hr]; exact plan_any A c d At ct t w h.secs h.cap h.cm hs ht htc (by omega)
theorem save_r {e : Int} (hr : saveD d t = (x, e)) (h : DBox w b A c d) (hs : Sm d.secs) (hli : d.left ≤ 9223372036854775807) (ht : Rd w w.heap.size At t.length (bvs t)) (htc : t.length ≤ ct) (htl : t.length ≤ 5000) : Calls Tryd.prog 12 #[dvD A c d, .slice At t.length ct] w (DRet w x fun v => .tuple #[v, .int .i64 e]) := by
  have := save_any A c d At ct t w h.secs h.cap h.cm hs hli ht htc (by omega); rw [hr] at this; exact this
theorem rec_r {r : Dsk × List UInt8 × Int × Int} (hr : recD d = r) (h : DBox w b A c d) (hs : Sm d.secs) : Calls Tryd.prog 27 #[dvD A c d] w (RRet w r) := by
  rw [← hr]; exact recover_any A c d w h.secs h.cap h.cm hs
theorem on_r (hr : onD d = x) (h : DBox w b A c d) (hs : Sm d.secs) : Calls Tryd.prog 13 #[dvD A c d] w (DRet w x id) := by
  rw [← hr]; exact on_any A c d w h.secs hs
theorem lim_r {l t : Int} (hr : limD d l t = x) (h : DBox w b A c d) (hs : Sm d.secs) : Calls Tryd.prog 30 #[dvD A c d, .int .i64 l, .int .i64 t] w (DRet w x id) := by
  rw [← hr]; exact limit_any A c d l t w h.secs hs
theorem do_r {l : List Wr} {e : Int} {Al : Option Addr} {cl : Nat} (hr : doD d l = (x, e)) (h : DBox w b A c d) (hs : Sm d.secs) (hl : Wrs w w.heap.size Al l.length l) (hcl : l.length ≤ 10000) (hli : d.left ≤ 9223372036854775807) : Calls Tryd.prog 31 #[dvD A c d, .slice Al l.length cl] w (DRet w x fun v => .tuple #[v, .int .i64 e]) := by
  have := do_any A c d Al l.length cl l w h.secs hs hl hcl hli; rw [hr] at this; exact this
theorem chk_r {v : Bool} (hr : checkB d.secs = v) (h : DBox w b A c d) (hs : Sm d.secs) : Calls Tryd.prog 11 #[dvD A c d] w fun e w' => e = .returned (.bool v) ∧ Below w.heap.size w w' := by
  rw [← hr]; exact check_any A d.secs.length c d.left d.torn d.off d.done d.secs w h.secs (by have := hs.1; unfold maxLen; omega)
theorem sml_r {v : Bool} (hr : smallB d.secs = v) (h : DBox w b A c d) : Calls Tryd.prog 10 #[dvD A c d] w fun e w' => e = .returned (.bool v) ∧ Below w.heap.size w w' := by
  rw [← hr]; exact small_any A d.secs.length c d.left d.torn d.off d.done d.secs w h.secs
theorem same_r {A' : Option Addr} {c' b' : Nat} (h : DBox w b A c d) (h' : DBox w b' A' c' d) (hs : Sm d.secs) : Calls Tryd.prog 29 #[dvD A c d, dvD A' c' d] w fun e w' => e = .returned (.bool true) ∧ Below w.heap.size w w' :=
  same_eq A A' c c' d w h.secs h'.secs hs
end
/-- Bytes that read so read so behind whatever lies beyond. -/
theorem rd_on {w w' : World} {A : Option Addr} {n : Nat} {xs : List Value} (h : Rd w w.heap.size A n xs) (hb : Below w.heap.size w w') : Rd w' w'.heap.size A n xs := (h.below hb).more hb.size
end Go.Proofs.YtgeofnemlijbgaaDoor
