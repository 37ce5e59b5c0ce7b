/- The document's Limit, On. -/
import Derived.Test.YtgeofnemlijbgaaDoorVE3
namespace Go.Proofs.YtgeofnemlijbgaaDoor
open Go.RowKit
set_option linter.unusedVariables false

theorem ron_any (A : Option Addr) (c : Nat) (d : Dsk) (w : World) (hd : Bss w w.heap.size A d.secs.length d.secs) (hs : Sm d.secs) :
    Calls Tryd.prog 45 #[dvD A c d] w (DRet w (onD d) id) := by
  obtain ⟨ss, left, torn, off, done⟩ := d
  dsimp only at hd hs ⊢
  have Hd := Lib.hid hd
  have Hs := Lib.hid hs
  clear hd hs
  go_enter Tryd.func45, Tryd.ntmps45
  go_wp2_with (go_at_call 47; refine (copy_any A c ⟨ss, left, torn, off, done⟩ _ ?h1 Hs.out).mono ?_; rotate_left; rintro e w1 ⟨A1, c1, vs, rfl, hO, hB⟩; obtain ⟨b0, b1, hB1⟩ := two_boxes_below hB; have cc1 := b1.cell; have ff1 := b1.frozen; have ca1 := fun o => (b1.alloc o).cell; have fa1 := fun o => (b1.alloc o).frozen)
  case h1 => exact bss_two Hd.out _ _ (by omega)
  have hlt := b1.lt
  have hne : ¬ w.heap.size + 1 = w1.heap.size := by omega
  go_wp2
  refine bodyPost_ret (v := dv A1 ss.length c1 (-1) torn false done) (by simp [results, Tryd.results45, go_sem, ca1]) rfl ?_
  exact dret_box (-1) torn false done hO (by simp; omega) hB1 b1 (by omega)
end Go.Proofs.YtgeofnemlijbgaaDoor
