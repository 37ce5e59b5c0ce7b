/- The laws' awake. -/
import Derived.Test.YtgeofnemlijbgaaD5
import Derived.Test.YtgeofnemlijbgaaD7
import Derived.Test.YtgeofnemlijbgaaE7
import Derived.Test.YtgeofnemlijbgaaE3
import Derived.Test.YtgeofnemlijbgaaE8
import Derived.Deep.DeepCutAuto
import Derived.Deep.RegionHeld3
namespace Go.Proofs.Ytgeofnemlijbgaa
open Go.RowKit
set_option linter.unusedVariables false

/-- A disk in a box. -/
structure DBox (w : World) (b : Nat) (A : Option Addr) (c : Nat) (d : Dsk) : Prop where
  blk : Blk w b 24 #[.slice A d.secs.length c, .int .i64 d.left, .int .i64 d.torn, .bool d.off, .int .i64 d.done]
  secs : Bss w w.heap.size A d.secs.length d.secs
  cap : d.secs.length ≤ c
  cm : c ≤ maxLen
theorem DBox.after {w w' : World} {b : Nat} {A : Option Addr} {c : Nat} {d : Dsk} (h : DBox w b A c d) (hb : Below w.heap.size w w') : DBox w' b A c d := ⟨h.blk.below hb h.blk.lt, bss_after h.secs hb, h.cap, h.cm⟩
theorem DBox.alloc {w : World} {b : Nat} {A : Option Addr} {c : Nat} {d : Dsk} (h : DBox w b A c d) (o : Obj) : DBox (w.alloc o) b A c d := h.after (below_one w o)
theorem DBox.drew {w : World} {b : Nat} {A : Option Addr} {c : Nat} {d : Dsk} (h : DBox w b A c d) : DBox w.drew b A c d := ⟨h.blk, h.secs, h.cap, h.cm⟩
theorem DBox.new {w : World} {base : Nat} {A : Option Addr} {c : Nat} {vs : List Value} {d : Dsk} (h : OwnS w base (.slice A d.secs.length c) vs d.secs) : DBox (w.alloc (.cells #[.slice A d.secs.length c, .int .i64 d.left, .int .i64 d.torn, .bool d.off, .int .i64 d.done] 24)) w.heap.size A c d := by
  have hc : d.secs.length ≤ c ∧ c ≤ maxLen := by
    obtain ⟨A', c', e, h1, h2⟩ := h.form
    simp only [Value.slice.injEq] at e
    obtain ⟨_, _, rfl⟩ := e
    exact ⟨h1, h2⟩
  exact ⟨Blk.new w _ _, bss_after h.bss (below_one w _), hc.1, hc.2⟩
theorem DBox.cells {w : World} {b : Nat} {A : Option Addr} {c : Nat} {d : Dsk} (h : DBox w b A c d) : w.cell? ⟨b, 0, none⟩ = some (.slice A d.secs.length c) ∧ w.cell? ⟨b, 1, none⟩ = some (.int .i64 d.left) ∧ w.cell? ⟨b, 2, none⟩ = some (.int .i64 d.torn) ∧ w.cell? ⟨b, 3, none⟩ = some (.bool d.off) ∧ w.cell? ⟨b, 4, none⟩ = some (.int .i64 d.done) :=
  ⟨h.blk.cell 0, h.blk.cell 1, h.blk.cell 2, h.blk.cell 3, h.blk.cell 4⟩

/-- Writes that were built in a row: one, two. -/
theorem wrs_one {w : World} {at1 : Int} {v1 : Value} {x1 : List UInt8} {base : Nat} (h1 : w.ownsRow base 5 1 v1 x1.length (bvs x1)) : Wrs (w.alloc (.cells #[.int .i64 at1, v1] 43)) (w.heap.size + 1) (some ⟨w.heap.size, 0, none⟩) 1 [(at1, x1)] := by
  refine ⟨rfl, [.int .i64 at1, v1], ⟨rfl, fun _ => ⟨_, rfl, Nat.lt_succ_self _, fun j u hu => ?_⟩⟩, fun i x hx => ?_⟩
  · rw [Addr.add_lit, Nat.zero_add, (Blk.new w _ _).cell]
    match j, hu with
    | 0, hu => simpa using hu
    | 1, hu => simpa using hu
  · match i, hx with
    | 0, hx =>
      simp at hx
      subst hx
      exact ⟨rfl, v1, rfl, ((own_bs h1).below (below_one w _)).more (by omega)⟩
theorem wrs_two {w : World} {at1 at2 : Int} {v1 v2 : Value} {x1 x2 : List UInt8} {base base2 : Nat} (h1 : w.ownsRow base 5 1 v1 x1.length (bvs x1)) (h2 : w.ownsRow base2 5 1 v2 x2.length (bvs x2)) : Wrs (w.alloc (.cells #[.int .i64 at1, v1, .int .i64 at2, v2] 43)) (w.heap.size + 1) (some ⟨w.heap.size, 0, none⟩) 2 [(at1, x1), (at2, x2)] := by
  refine ⟨rfl, [.int .i64 at1, v1, .int .i64 at2, v2], ⟨rfl, fun _ => ⟨_, rfl, Nat.lt_succ_self _, fun j u hu => ?_⟩⟩, fun i x hx => ?_⟩
  · rw [Addr.add_lit, Nat.zero_add, (Blk.new w _ _).cell]
    match j, hu with
    | 0, hu => simpa using hu
    | 1, hu => simpa using hu
    | 2, hu => simpa using hu
    | 3, hu => simpa using hu
  · match i, hx with
    | 0, hx =>
      simp at hx
      subst hx
      exact ⟨rfl, v1, rfl, ((own_bs h1).below (below_one w _)).more (by omega)⟩
    | 1, hx =>
      simp at hx
      subst hx
      exact ⟨rfl, v2, rfl, ((own_bs h2).below (below_one w _)).more (by omega)⟩

def aD : Dsk := (newD 4).1
def aA : Dsk := (doD aD [(1, blockL 5), (2, blockL 6)]).1
def aL : Dsk := limD aA 0 1
def aB : Dsk := (doD aL [(1, blockL 7)]).1
def aI : Dsk := (doD aB [(1, blockL 7)]).1
def aO : Dsk := onD aB
def aJ : Dsk := (doD aO [(1, blockL 7)]).1
theorem smOf {d : Dsk} (h : checkB d.secs = true) : Sm d.secs := ⟨(checkB_len h).2, fun i l hl => by rw [checkB_at h hl]; omega⟩
theorem aD_sm : Sm aD.secs := smOf (by decide +kernel)
theorem aA_sm : Sm aA.secs := smOf (by decide +kernel)
theorem aL_sm : Sm aL.secs := smOf (by decide +kernel)
theorem aB_sm : Sm aB.secs := smOf (by decide +kernel)
theorem aO_sm : Sm aO.secs := smOf (by decide +kernel)
theorem aB_ck : checkB aB.secs = true := by decide +kernel
theorem aA_e : (doD aD [(1, blockL 5), (2, blockL 6)]).2 = 0 := by decide +kernel
theorem aB_e : (doD aL [(1, blockL 7)]).2 = 170 := by decide +kernel
theorem aI_e : (doD aB [(1, blockL 7)]).2 = 170 := by decide +kernel
theorem aJ_e : (doD aO [(1, blockL 7)]).2 = 0 := by decide +kernel
theorem aA_done : aA.done = 2 := by decide +kernel
theorem aB_off : aB.off = true := by decide +kernel
theorem aR1 : readD aB 1 2 = (blockL 7 ++ blockL 6, 0) := by decide +kernel
theorem aR2 : readD aB 3 2 = ([], 1) := by decide +kernel
theorem a_left : aD.left ≤ 9223372036854775807 ∧ aL.left ≤ 9223372036854775807 ∧ aB.left ≤ 9223372036854775807 ∧ aO.left ≤ 9223372036854775807 := by decide +kernel

theorem do_at {d d' : Dsk} {l : List Wr} {e : Int} (hd' : d' = (doD d l).1) (he : (doD d l).2 = e) {A : Option Addr} {c : Nat} {Al : Option Addr} {nl cl : Nat} {w : World} (hd : Bss w w.heap.size A d.secs.length d.secs) (hs : Sm d.secs) (hl : Wrs w w.heap.size Al nl l) (hcl : nl ≤ 10000) (hli : d.left ≤ 9223372036854775807) :
    Calls Try.prog 22 #[dvD A c d, .slice Al nl cl] w (DRet w d' fun v => .tuple #[v, .int .i64 e]) := by
  subst hd'
  subst he
  exact do_any A c d Al nl cl l w hd hs hl hcl hli
section
variable {A : Option Addr} {c : Nat} {Al : Option Addr} {cl : Nat} {w : World}
theorem doA (hd : Bss w w.heap.size A aD.secs.length aD.secs) (hl : Wrs w w.heap.size Al 2 [(1, blockL 5), (2, blockL 6)]) : Calls Try.prog 22 #[dvD A c aD, .slice Al 2 cl] w (DRet w aA fun v => .tuple #[v, .int .i64 0]) := do_at (by unfold aA; rfl) aA_e hd aD_sm hl (by omega) a_left.1
theorem doB (hd : Bss w w.heap.size A aL.secs.length aL.secs) (hl : Wrs w w.heap.size Al 1 [(1, blockL 7)]) : Calls Try.prog 22 #[dvD A c aL, .slice Al 1 cl] w (DRet w aB fun v => .tuple #[v, .int .i64 170]) := do_at (by unfold aB; rfl) aB_e hd aL_sm hl (by omega) a_left.2.1
theorem doI (hd : Bss w w.heap.size A aB.secs.length aB.secs) (hl : Wrs w w.heap.size Al 1 [(1, blockL 7)]) : Calls Try.prog 22 #[dvD A c aB, .slice Al 1 cl] w (DRet w aI fun v => .tuple #[v, .int .i64 170]) := do_at (by unfold aI; rfl) aI_e hd aB_sm hl (by omega) a_left.2.2.1
theorem doJ (hd : Bss w w.heap.size A aO.secs.length aO.secs) (hl : Wrs w w.heap.size Al 1 [(1, blockL 7)]) : Calls Try.prog 22 #[dvD A c aO, .slice Al 1 cl] w (DRet w aJ fun v => .tuple #[v, .int .i64 0]) := do_at (by unfold aJ; rfl) aJ_e hd aO_sm hl (by omega) a_left.2.2.2
theorem limL (hd : Bss w w.heap.size A aA.secs.length aA.secs) : Calls Try.prog 15 #[dvD A c aA, .int .i64 0, .int .i64 1] w (DRet w aL id) := limit_any A c aA 0 1 w hd aA_sm
theorem onO (hd : Bss w w.heap.size A aB.secs.length aB.secs) : Calls Try.prog 17 #[dvD A c aB] w (DRet w aO id) := on_any A c aB w hd aB_sm
theorem readR1 (hd : Bss w w.heap.size A aB.secs.length aB.secs) (h1 : aB.secs.length ≤ c) (h2 : c ≤ maxLen) : Calls Try.prog 12 #[dvD A c aB, .int .i64 1, .int .i64 2] w (BRet w (blockL 7 ++ blockL 6) fun v => .tuple #[v, .int .i64 0]) := by
  have := read_any A c aB 1 2 w hd h1 h2 aB_sm (by omega) (by omega)
  rw [aR1] at this
  exact this
theorem readR2 (hd : Bss w w.heap.size A aB.secs.length aB.secs) (h1 : aB.secs.length ≤ c) (h2 : c ≤ maxLen) : Calls Try.prog 12 #[dvD A c aB, .int .i64 3, .int .i64 2] w (BRet w [] fun v => .tuple #[v, .int .i64 1]) := by
  have := read_any A c aB 3 2 w hd h1 h2 aB_sm (by omega) (by omega)
  rw [aR2] at this
  exact this
end

theorem new4 (w : World) : Calls Try.prog 10 #[.int .i64 4] w (DRet w aD fun v => .tuple #[v, .int .i64 0]) := new_any 4 w
theorem new3 (w : World) : Calls Try.prog 10 #[.int .i64 3] w (DRet w ⟨[], 0, 0, false, 0⟩ fun v => .tuple #[v, .int .i64 1]) := new_any 3 w
attribute [irreducible] aD aA aL aB aI aO aJ
end Go.Proofs.Ytgeofnemlijbgaa
