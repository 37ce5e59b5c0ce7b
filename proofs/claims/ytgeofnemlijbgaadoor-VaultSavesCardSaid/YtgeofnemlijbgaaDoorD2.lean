/- disk.Limit, disk.On. -/
import Derived.Test.YtgeofnemlijbgaaDoorD1
namespace Go.Proofs.YtgeofnemlijbgaaDoor
open Go.RowKit
set_option linter.unusedVariables false

def limD (d : Dsk) (left torn : Int) : Dsk := { d with left := left, torn := torn }
def onD (d : Dsk) : Dsk := { d with off := false, left := -1 }

/-- Behind two boxes and a call that makes memory. -/
theorem two_boxes_below {w w1 : World} {cs cs' : Array Value} {t t' : TypeId} (h : Below ((w.alloc (.cells cs t)).alloc (.cells cs' t')).heap.size ((w.alloc (.cells cs t)).alloc (.cells cs' t')) w1) :
    Blk w1 w.heap.size t cs ∧ Blk w1 (w.heap.size + 1) t' cs' ∧ Below w.heap.size w w1 := two_boxes (row := none) (grown_of_below h) (fun _ e => by cases e)

/-- A disk's box at the end: copied into the result's box. -/
theorem dret_box {w w1 : World} {A : Option Addr} {c : Nat} {vs : List Value} {ss : List (List UInt8)} {R : Nat} {cs : Array Value} {x0 x1 x2 x3 x4 : Value} {base : Nat} (left torn : Int) (off : Bool) (done : Int) (hO : OwnS w1 base (.slice A ss.length c) vs ss) (hbase : w.heap.size ≤ base) (hB : Below w.heap.size w w1) (hb : Blk w1 R 24 #[x0, x1, x2, x3, x4]) (hR : w.heap.size ≤ R) :
    DRet w ⟨ss, left, torn, off, done⟩ id (.returned (dv A ss.length c left torn off done)) (set5 (w1.alloc (.cells cs 24)) R (.slice A ss.length c) (.int .i64 left) (.int .i64 torn) (.bool off) (.int .i64 done)) :=
  ⟨_, _, _, rfl, ((hO.alloc _).grownB (set5_grown _ R _ _ _ _ _) (hb.alloc _) (by decide) (by decide)).less hbase, (hB.alloc hB.size _).grown (set5_grown _ R _ _ _ _ _) (by simp; have := hB.size; omega) (fun g e => by injection e; omega)⟩

/-- A disk, copied into the result's box. -/
theorem dret_fin {w w1 : World} {A : Option Addr} {c : Nat} {vs : List Value} {ss : List (List UInt8)} {R : Nat} {x0 x1 x2 x3 x4 : Value} {base : Nat} (f : Value → Value) (left torn : Int) (off : Bool) (done : Int) (hO : OwnS w1 base (.slice A ss.length c) vs ss) (hbase : w.heap.size ≤ base) (hB : Below w.heap.size w w1) (hb : Blk w1 R 24 #[x0, x1, x2, x3, x4]) (hR : w.heap.size ≤ R) :
    DRet w ⟨ss, left, torn, off, done⟩ f (.returned (f (dv A ss.length c left torn off done))) (set5 w1 R (.slice A ss.length c) (.int .i64 left) (.int .i64 torn) (.bool off) (.int .i64 done)) :=
  ⟨_, _, _, rfl, (hO.grownB (set5_grown _ R _ _ _ _ _) hb (by decide) (by decide)).less hbase, hB.grown (set5_grown _ R _ _ _ _ _) hB.size (fun g e => by injection e; omega)⟩

theorem on_any (A : Option Addr) (c : Nat) (d : Dsk) (w : World) (hd : Bss w w.heap.size A d.secs.length d.secs) (hs : Sm d.secs) :
    Calls Tryd.prog 13 #[dvD A c d] w (DRet w (onD d) id) := by
  obtain ⟨ss, left, torn, off, done⟩ := d
  dsimp only at hd hs ⊢
  have Hd := Lib.hid hd
  have Hs := Lib.hid hs
  clear hd hs
  go_enter Tryd.func13, Tryd.ntmps13
  go_wp2_with (go_at_call 33; refine (clone_any A c ⟨ss, left, torn, off, done⟩ _ ?h1 Hs.out).mono ?_; rotate_left; rintro e w1 ⟨A1, c1, vs, rfl, hO, hB⟩; obtain ⟨b0, b1, hB1⟩ := two_boxes_below hB; have cc1 := b1.cell; have ff1 := b1.frozen; have ca1 := fun o => (b1.alloc o).cell; have fa1 := fun o => (b1.alloc o).frozen)
  case h1 => exact bss_two Hd.out _ _ (by omega)
  have hlt := b1.lt
  have hne : ¬ w.heap.size + 1 = w1.heap.size := by omega
  go_wp2
  refine bodyPost_ret (v := dv A1 ss.length c1 (-1) torn false done) (by simp [results, Tryd.results13, go_sem, ca1]) rfl ?_
  exact dret_box (-1) torn false done hO (by simp; omega) hB1 b1 (by omega)
theorem limit_any (A : Option Addr) (c : Nat) (d : Dsk) (l t : Int) (w : World) (hd : Bss w w.heap.size A d.secs.length d.secs) (hs : Sm d.secs) :
    Calls Tryd.prog 30 #[dvD A c d, .int .i64 l, .int .i64 t] w (DRet w (limD d l t) id) := by
  obtain ⟨ss, left, torn, off, done⟩ := d
  dsimp only at hd hs ⊢
  have Hd := Lib.hid hd
  have Hs := Lib.hid hs
  clear hd hs
  go_enter Tryd.func30, Tryd.ntmps30
  go_wp2_with (go_at_call 33; refine (clone_any A c ⟨ss, left, torn, off, done⟩ _ ?h1 Hs.out).mono ?_; rotate_left; rintro e w1 ⟨A1, c1, vs, rfl, hO, hB⟩; obtain ⟨b0, b1, hB1⟩ := two_boxes_below hB; have cc1 := b1.cell; have ff1 := b1.frozen; have ca1 := fun o => (b1.alloc o).cell; have fa1 := fun o => (b1.alloc o).frozen)
  case h1 => exact bss_two Hd.out _ _ (by omega)
  have hlt := b1.lt
  have hne : ¬ w.heap.size + 1 = w1.heap.size := by omega
  go_wp2
  refine bodyPost_ret (v := dv A1 ss.length c1 l t off done) (by simp [results, Tryd.results30, go_sem, ca1]) rfl ?_
  exact dret_box l t off done hO (by simp; omega) hB1 b1 (by omega)
end Go.Proofs.YtgeofnemlijbgaaDoor
