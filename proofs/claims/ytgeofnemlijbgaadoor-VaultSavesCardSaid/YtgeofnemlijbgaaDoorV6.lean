/- vault.newest. -/
import Derived.Test.YtgeofnemlijbgaaDoorV5
import Derived.Test.YtgeofnemlijbgaaDoorVE4
namespace Go.Proofs.YtgeofnemlijbgaaDoor
open Go.RowKit
set_option linter.unusedVariables false
set_option linter.unusedSimpArgs false
attribute [local go_sem high] run_ix0 run_ix1

/-- A disk in a box. -/
structure DBox (w : World) (b : Nat) (A : Option Addr) (c : Nat) (d : Dsk) : Prop where
  blk : Blk w b 24 #[.slice A d.secs.length c, .int .i64 d.left, .int .i64 d.torn, .bool d.off, .int .i64 d.done]
  secs : Bss w w.heap.size A d.secs.length d.secs
  cap : d.secs.length ≤ c
  cm : c ≤ maxLen
theorem DBox.after {w w' : World} {b : Nat} {A : Option Addr} {c : Nat} {d : Dsk} (h : DBox w b A c d) (hb : Below w.heap.size w w') : DBox w' b A c d := ⟨h.blk.below hb h.blk.lt, bss_after h.secs hb, h.cap, h.cm⟩
theorem DBox.alloc {w : World} {b : Nat} {A : Option Addr} {c : Nat} {d : Dsk} (h : DBox w b A c d) (o : Obj) : DBox (w.alloc o) b A c d := h.after (below_one w o)
theorem DBox.drew {w : World} {b : Nat} {A : Option Addr} {c : Nat} {d : Dsk} (h : DBox w b A c d) : DBox w.drew b A c d := ⟨h.blk, h.secs, h.cap, h.cm⟩
theorem DBox.cells {w : World} {b : Nat} {A : Option Addr} {c : Nat} {d : Dsk} (h : DBox w b A c d) : w.cell? ⟨b, 0, none⟩ = some (.slice A d.secs.length c) ∧ w.cell? ⟨b, 1, none⟩ = some (.int .i64 d.left) ∧ w.cell? ⟨b, 2, none⟩ = some (.int .i64 d.torn) ∧ w.cell? ⟨b, 3, none⟩ = some (.bool d.off) ∧ w.cell? ⟨b, 4, none⟩ = some (.int .i64 d.done) :=
  ⟨h.blk.cell 0, h.blk.cell 1, h.blk.cell 2, h.blk.cell 3, h.blk.cell 4⟩
theorem DBox.arg {w : World} {A : Option Addr} {c : Nat} {d : Dsk} (hd : Bss w w.heap.size A d.secs.length d.secs) (h1 : d.secs.length ≤ c) (h2 : c ≤ maxLen) : DBox (w.alloc (.cells #[.slice A d.secs.length c, .int .i64 d.left, .int .i64 d.torn, .bool d.off, .int .i64 d.done] 24)) w.heap.size A c d :=
  ⟨Blk.new w _ _, bss_after hd (below_one w _), h1, h2⟩

/-- Of two areas the one that counts, the newest: which one, its number, and its length. -/
def newV (r0 r1 : Option (Nat × Nat)) : Option (Nat × Nat × Nat) := match r0, r1 with
  | none, none => none
  | some (n, m), none => some (0, n, m)
  | none, some (n, m) => some (1, n, m)
  | some (n, m), some (n', m') => if n < n' then some (1, n', m') else some (0, n, m)
/-- Behind so many areas. -/
def bestN (r0 r1 : Option (Nat × Nat)) : Nat → Option (Nat × Nat × Nat)
  | 0 => none
  | 1 => r0.map fun x => (0, x.1, x.2)
  | _ => newV r0 r1
def txC : Option (Nat × Nat × Nat) → Array Value
  | some (k, n, m) => #[.int .i64 (k : Int), .int .i64 (n : Int), .int .i64 (m : Int)]
  | none => #[.int .i64 0, .int .i64 0, .int .i64 0]
section
variable {w w' : World} {g b : Nat} {t t' : TypeId} {x y z : Value} {cs : Array Value}
abbrev set3 (w : World) (g : Nat) (x y z : Value) : World := ((w.setCell ⟨g, 0, none⟩ x).setCell ⟨g, 1, none⟩ y).setCell ⟨g, 2, none⟩ z
theorem set3_blk {x0 y0 z0 : Value} (h : Blk w g t #[x0, y0, z0]) (x y z : Value) : Blk (set3 w g x y z) g t #[x, y, z] := by
  have := ((h.set_ 0 x).set_ 1 y).set_ 2 z
  simpa using this
theorem set3_far (h : Blk w b t cs) (hne : b ≠ g) (x y z : Value) : Blk (set3 w g x y z) b t cs :=
  ((h.far (p := ⟨g, 0, none⟩) hne x).far (p := ⟨g, 1, none⟩) hne y).far (p := ⟨g, 2, none⟩) hne z
theorem bel_set3 {W : World} (h : Below W.heap.size W w) (hg : W.heap.size ≤ g) (x y z : Value) : Below W.heap.size W (set3 w g x y z) :=
  ((h.setCell (p := ⟨g, 0, none⟩) hg x).setCell (p := ⟨g, 1, none⟩) hg y).setCell (p := ⟨g, 2, none⟩) hg z
end
/-- A sector of a disk. -/
def secN (d : Dsk) (i : Nat) : List UInt8 := d.secs.getD i []
def halfD (d : Dsk) : Nat := (halfN d.secs.length).toNat
def head0 (d : Dsk) : Option (Nat × Nat) := readH (secN d 0) (roomN d.secs.length)
def head1 (d : Dsk) : Option (Nat × Nat) := readH (secN d (halfD d)) (roomN d.secs.length)
def newestD (d : Dsk) : Option (Nat × Nat × Nat) := newV (head0 d) (head1 d)
theorem halfD_eq {d : Dsk} (h : checkB d.secs = true) : (halfD d : Int) = halfN d.secs.length ∧ halfD d = d.secs.length / 2 ∧ halfD d < d.secs.length ∧ 2 ≤ halfD d := by
  obtain ⟨h1, h2⟩ := checkB_len h
  have : halfN d.secs.length = (d.secs.length : Int) / 2 := halfN_mid (by omega) (by omega)
  unfold halfD
  rw [this]
  omega
theorem sec_at {d : Dsk} {i : Nat} (hi : i < d.secs.length) : d.secs[i]? = some (secN d i) := by
  unfold secN
  rw [List.getD_eq_getElem?_getD, List.getElem?_eq_getElem hi, Option.getD_some]

set_option maxRecDepth 100000 in
set_option maxHeartbeats 4000000 in
theorem newest_any (A : Option Addr) (c : Nat) (d : Dsk) (w : World) (hd : Bss w w.heap.size A d.secs.length d.secs) (h1 : d.secs.length ≤ c) (h2 : c ≤ maxLen) (hck : checkB d.secs = true) :
    Calls Tryd.prog 34 #[dvD A c d] w fun e w' => e = .returned (.tuple #[.agg (txC (newestD d)), .bool (newestD d).isSome]) ∧ Below w.heap.size w w' := by
  obtain ⟨hh1, hh2, hh3, hh4⟩ := halfD_eq hck
  have hlen := (checkB_len hck).2
  obtain ⟨ad, _, _, _, rfl, _⟩ := hd.at_ (k := 0) (by omega)
  have hrm : 0 ≤ roomN d.secs.length ∧ roomN d.secs.length ≤ 1000000 := by have := halfN_rng d.secs.length; unfold roomN; omega
  obtain ⟨hr0, hr1⟩ := hrm
  have D0 := Lib.hid (DBox.arg hd h1 h2)
  have hb1 : Below w.heap.size w (((w.alloc (.cells #[.slice (some ad) d.secs.length c, .int .i64 d.left, .int .i64 d.torn, .bool d.off, .int .i64 d.done] 24)).alloc (.cells #[.int .i64 0, .int .i64 0, .int .i64 0] 53)).alloc (.cells #[.int .i64 0, .int .i64 0, .int .i64 0] 53)) := bel_al (bel_al (below_one w _))
  have D2 := Lib.hid ((D0.out.alloc (.cells #[.int .i64 0, .int .i64 0, .int .i64 0] 53)).alloc (.cells #[.int .i64 0, .int .i64 0, .int .i64 0] 53))
  have z1 : Blk (((w.alloc (.cells #[.slice (some ad) d.secs.length c, .int .i64 d.left, .int .i64 d.torn, .bool d.off, .int .i64 d.done] 24)).alloc (.cells #[.int .i64 0, .int .i64 0, .int .i64 0] 53)).alloc (.cells #[.int .i64 0, .int .i64 0, .int .i64 0] 53)) (w.heap.size + 1) 53 #[.int .i64 0, .int .i64 0, .int .i64 0] := by
    have := (Blk.new (w.alloc (.cells #[.slice (some ad) d.secs.length c, .int .i64 d.left, .int .i64 d.torn, .bool d.off, .int .i64 d.done] 24)) 53 #[.int .i64 0, .int .i64 0, .int .i64 0]).alloc (.cells #[.int .i64 0, .int .i64 0, .int .i64 0] 53)
    simpa using this
  have z2 : Blk (((w.alloc (.cells #[.slice (some ad) d.secs.length c, .int .i64 d.left, .int .i64 d.torn, .bool d.off, .int .i64 d.done] 24)).alloc (.cells #[.int .i64 0, .int .i64 0, .int .i64 0] 53)).alloc (.cells #[.int .i64 0, .int .i64 0, .int .i64 0] 53)) (w.heap.size + 1 + 1) 53 #[.int .i64 0, .int .i64 0, .int .i64 0] := by
    have := Blk.new ((w.alloc (.cells #[.slice (some ad) d.secs.length c, .int .i64 d.left, .int .i64 d.torn, .bool d.off, .int .i64 d.done] 24)).alloc (.cells #[.int .i64 0, .int .i64 0, .int .i64 0] 53)) 53 #[.int .i64 0, .int .i64 0, .int .i64 0]
    simpa using this
  have HB1 := Lib.hid hb1
  have Z1 := Lib.hid z1
  have Z2 := Lib.hid z2
  have HH1 := Lib.hid hh1
  obtain ⟨nd, hnd⟩ : ∃ x, x = newestD d := ⟨_, rfl⟩
  rw [← hnd]
  have HND := Lib.hid hnd
  obtain ⟨rm, hrm⟩ : ∃ r, r = roomN d.secs.length := ⟨_, rfl⟩
  have HRM := Lib.hid hrm
  rw [← hrm] at hr0 hr1
  obtain ⟨s0, hs0⟩ : ∃ s, s = secN d 0 := ⟨_, rfl⟩
  obtain ⟨s1, hs1⟩ : ∃ s, s = secN d (halfD d) := ⟨_, rfl⟩
  obtain ⟨h, hh⟩ : ∃ h, h = halfD d := ⟨_, rfl⟩
  have hat0 : d.secs[0]? = some s0 := by rw [hs0]; exact sec_at (by omega)
  have hat1 : d.secs[h]? = some s1 := by rw [hs1, hh]; exact sec_at (by omega)
  obtain ⟨r0, hr0e⟩ : ∃ r, r = readH s0 rm := ⟨_, rfl⟩
  obtain ⟨r1, hr1e⟩ : ∃ r, r = readH s1 rm := ⟨_, rfl⟩
  have hnew : nd = newV r0 r1 := by rw [hr0e, hr1e, hnd, hs0, hs1, hrm]; rfl
  have RE0 := Lib.hid hr0e
  have RE1 := Lib.hid hr1e
  rw [← hh] at hh1 hh2 hh3 hh4 HH1
  have HNEW := Lib.hid hnew
  have HD := Lib.hid hd
  have HA0 := Lib.hid hat0
  have HA1 := Lib.hid hat1
  clear hd h1 h2 hck hb1 z1 z2 D0 hnd hrm hnew hr0e hr1e hs0 hs1 hh hat0 hat1 hh1 hh2
  go_enter Tryd.func34, Tryd.ntmps34
  go_upto_region 3 with (fail)
  generalize (((w.alloc (.cells #[.slice (some ad) d.secs.length c, .int .i64 d.left, .int .i64 d.torn, .bool d.off, .int .i64 d.done] 24)).alloc (.cells #[.int .i64 0, .int .i64 0, .int .i64 0] 53)).alloc (.cells #[.int .i64 0, .int .i64 0, .int .i64 0] 53)) = W1 at D2 HB1 Z1 Z2 ⊢
  obtain ⟨q0, q1, q2, q3, q4⟩ := D2.out.cells
  go_wp2_with (first
    | (go_at_call 17; refine (room_any _ _).mono ?_; rw [← HRM.out]; rintro e w2 ⟨rfl, hB2⟩; have D3 := Lib.hid (D2.out.after hB2); have HB2 := Lib.hid hB2; clear hB2 q0 q1 q2 q3 q4; obtain ⟨q0, q1, q2, q3, q4⟩ := D3.out.cells)
    | (go_at_call 36; refine (areas_any _ _).mono ?_; rw [← HH1.out]; rintro e w3 ⟨rfl, hB3⟩; have HB3 := Lib.hid (keepB hB3 HB2.out); clear hB3 q0 q1 q2 q3 q4))
  go_loopw [5, 20] (fun f i wr => ∃ j : Nat, j ≤ 2 ∧ i = .int .i64 j ∧ f = .bool (bestN r0 r1 j).isSome ∧ Blk wr (w.heap.size + 1 + 1) 53 (txC (bestN r0 r1 j)) ∧ Blk wr w.heap.size 24 #[.slice (some ad) d.secs.length c, .int .i64 d.left, .int .i64 d.torn, .bool d.off, .int .i64 d.done] ∧ Blk wr (w.heap.size + 1) 53 #[.int .i64 0, .int .i64 0, .int .i64 0] ∧ Below w.heap.size w wr) (fun f i _ => 2 - (intOf i).toNat)
  case atStart => exact ⟨0, by omega, rfl, rfl, Z2.out.below HB3.out Z2.out.lt, (D2.out.after HB3.out).blk, Z1.out.below HB3.out Z1.out.lt, keepB HB3.out HB1.out⟩
  case round =>
    obtain ⟨j, hj, rfl, rfl, hbt, hD, hz, hB⟩ := hrel
    have BT := Lib.hid hbt
    have DD := Lib.hid hD
    have ZZ := Lib.hid hz
    have BB := Lib.hid hB
    clear hbt hD hz hB D2 HB1 Z1 Z2 D3 HB2 HB3
    have hj3 : j = 0 ∨ j = 1 ∨ j = 2 := by omega
    have hlt := BT.out.lt
    rcases hj3 with rfl | rfl | rfl
    · skip
      obtain ⟨ad', As, cs, l, hAe, hb, hl, hc, hlc, hcm, hR⟩ := (HD.out.below BB.out).at_ (k := 0) (by omega)
      injection hAe with hAe
      subst hAe
      rw [HA0.out] at hl
      injection hl with hl
      subst hl
      have R0 := Lib.hid (hR.below ((below_one wr (.cells #[.int .i64 0, .int .i64 (h : Int)] 62)).mono BB.out.size))
      have D4 := Lib.hid (DD.out.alloc (.cells #[.int .i64 0, .int .i64 (h : Int)] 62))
      have q0 := D4.out.cell
      have a0 := (Blk.new wr 62 #[.int .i64 0, .int .i64 (h : Int)]).cell
      have hca := (World.cell?_alloc_lt wr (.cells #[.int .i64 0, .int .i64 (h : Int)] 62) (ad.add 0) (by rw [block_of_add]; exact Nat.lt_of_lt_of_le hb BB.out.size)).trans hc
      have hca : (wr.alloc (.cells #[.int .i64 0, .int .i64 (h : Int)] 62)).cell? ad = some (.slice As s0.length cs) := by simpa [Addr.add] using hca
      clear hR hc
      have hk0 : (0 : Int) < (d.secs.length : Int) := by omega
      rcases r0 with _ | ⟨n, m⟩
      · replace BT : Hid (Blk wr (w.heap.size + 1 + 1) 53 #[.int .i64 0, .int .i64 0, .int .i64 0]) := Lib.hid BT.out
        simp only [bestN, Option.isSome_none]
        go_wp2_with (go_at_call 49; refine (readhead_any As cs s0 rm _ R0.out (by have := BB.out.size; simp; omega) hlc hr0 hr1).mono ?_; rw [← RE0.out]; rintro e w5 ⟨rfl, hB5⟩; have hB6 := hB5.mono (Nat.le_refl _); have HB5 := Lib.hid hB5; have bt5 := (BT.out.alloc _).below hB5 (BT.out.alloc _).lt; have cbt := bt5.cell; have fbt := bt5.frozen; have BT5 := Lib.hid bt5; clear hB5 hB6 bt5 q0 a0 hca)
        go_roundw
        case rel => exact ⟨1, by omega, by go_num, rfl, BT5.out, D4.out.below HB5.out D4.out.lt, (ZZ.out.alloc _).below HB5.out (ZZ.out.alloc _).lt, keepB HB5.out (keepB (below_one wr _) BB.out)⟩
        case measure => simp [intOf]
      · replace BT : Hid (Blk wr (w.heap.size + 1 + 1) 53 #[.int .i64 0, .int .i64 0, .int .i64 0]) := Lib.hid BT.out
        simp only [bestN, Option.isSome_none]
        go_wp2_with (go_at_call 49; refine (readhead_any As cs s0 rm _ R0.out (by have := BB.out.size; simp; omega) hlc hr0 hr1).mono ?_; rw [← RE0.out]; rintro e w5 ⟨rfl, hB5⟩; have hB6 := hB5.mono (Nat.le_refl _); have HB5 := Lib.hid hB5; have bt5 := (BT.out.alloc _).below hB5 (BT.out.alloc _).lt; have cbt := bt5.cell; have fbt := bt5.frozen; have BT5 := Lib.hid bt5; clear hB5 hB6 bt5 q0 a0 hca)
        go_roundw
        case rel => exact ⟨1, by omega, by go_num, rfl, set3_blk BT5.out _ _ _, set3_far (D4.out.below HB5.out D4.out.lt) (by omega) _ _ _, set3_far ((ZZ.out.alloc _).below HB5.out (ZZ.out.alloc _).lt) (by omega) _ _ _, bel_set3 (keepB HB5.out (keepB (below_one wr _) BB.out)) (by omega) _ _ _⟩
        case measure => simp [intOf]
    · skip
      obtain ⟨ad', As, cs, l, hAe, hb, hl, hc, hlc, hcm, hR⟩ := (HD.out.below BB.out).at_ (k := h) (by omega)
      injection hAe with hAe
      subst hAe
      rw [HA1.out] at hl
      injection hl with hl
      subst hl
      have R0 := Lib.hid (hR.below ((below_one wr (.cells #[.int .i64 (h : Int), .int .i64 (h : Int)] 62)).mono BB.out.size))
      have D4 := Lib.hid (DD.out.alloc (.cells #[.int .i64 (h : Int), .int .i64 (h : Int)] 62))
      have q0 := D4.out.cell
      have a0 := (Blk.new wr 62 #[.int .i64 (h : Int), .int .i64 (h : Int)]).cell
      have hca := (World.cell?_alloc_lt wr (.cells #[.int .i64 (h : Int), .int .i64 (h : Int)] 62) (ad.add h) (by rw [block_of_add]; exact Nat.lt_of_lt_of_le hb BB.out.size)).trans hc
      skip
      clear hR hc
      have hk0 : (0 : Int) ≤ (h : Int) := by omega
      have hk1 : (h : Int) < (d.secs.length : Int) := by omega
      rcases r0 with _ | ⟨n, m⟩
      · replace BT : Hid (Blk wr (w.heap.size + 1 + 1) 53 #[.int .i64 0, .int .i64 0, .int .i64 0]) := Lib.hid BT.out
        simp only [bestN, Option.map_none, Option.isSome_none]
        rcases r1 with _ | ⟨n', m'⟩
        · skip
          go_wp2_with (go_at_call 49; refine (readhead_any As cs s1 rm _ R0.out (by have := BB.out.size; simp; omega) hlc hr0 hr1).mono ?_; rw [← RE1.out]; rintro e w5 ⟨rfl, hB5⟩; have hB6 := hB5.mono (Nat.le_refl _); have HB5 := Lib.hid hB5; have bt5 := (BT.out.alloc _).below hB5 (BT.out.alloc _).lt; have cbt := bt5.cell; have fbt := bt5.frozen; have BT5 := Lib.hid bt5; clear hB5 hB6 bt5 q0 a0 hca)
          go_roundw
          case rel => exact ⟨2, by omega, by go_num, rfl, BT5.out, D4.out.below HB5.out D4.out.lt, (ZZ.out.alloc _).below HB5.out (ZZ.out.alloc _).lt, keepB HB5.out (keepB (below_one wr _) BB.out)⟩
          case measure => simp [intOf]
        · skip
          go_wp2_with (go_at_call 49; refine (readhead_any As cs s1 rm _ R0.out (by have := BB.out.size; simp; omega) hlc hr0 hr1).mono ?_; rw [← RE1.out]; rintro e w5 ⟨rfl, hB5⟩; have hB6 := hB5.mono (Nat.le_refl _); have HB5 := Lib.hid hB5; have bt5 := (BT.out.alloc _).below hB5 (BT.out.alloc _).lt; have cbt := bt5.cell; have fbt := bt5.frozen; have BT5 := Lib.hid bt5; clear hB5 hB6 bt5 q0 a0 hca)
          go_roundw
          case rel => exact ⟨2, by omega, by go_num, rfl, set3_blk BT5.out _ _ _, set3_far (D4.out.below HB5.out D4.out.lt) (by omega) _ _ _, set3_far ((ZZ.out.alloc _).below HB5.out (ZZ.out.alloc _).lt) (by omega) _ _ _, bel_set3 (keepB HB5.out (keepB (below_one wr _) BB.out)) (by omega) _ _ _⟩
          case measure => simp [intOf]
      · replace BT : Hid (Blk wr (w.heap.size + 1 + 1) 53 #[.int .i64 0, .int .i64 (n : Int), .int .i64 (m : Int)]) := Lib.hid BT.out
        simp only [bestN, Option.map_some, Option.isSome_some]
        rcases r1 with _ | ⟨n', m'⟩
        · skip
          go_wp2_with (go_at_call 49; refine (readhead_any As cs s1 rm _ R0.out (by have := BB.out.size; simp; omega) hlc hr0 hr1).mono ?_; rw [← RE1.out]; rintro e w5 ⟨rfl, hB5⟩; have hB6 := hB5.mono (Nat.le_refl _); have HB5 := Lib.hid hB5; have bt5 := (BT.out.alloc _).below hB5 (BT.out.alloc _).lt; have cbt := bt5.cell; have fbt := bt5.frozen; have BT5 := Lib.hid bt5; clear hB5 hB6 bt5 q0 a0 hca)
          go_roundw
          case rel => exact ⟨2, by omega, by go_num, rfl, BT5.out, D4.out.below HB5.out D4.out.lt, (ZZ.out.alloc _).below HB5.out (ZZ.out.alloc _).lt, keepB HB5.out (keepB (below_one wr _) BB.out)⟩
          case measure => simp [intOf]
        · by_cases hnn : n < n'
          · have BE := Lib.hid (show newV (some (n, m)) (some (n', m')) = some (1, n', m') by simp only [newV]; rw [if_pos hnn])
            have tn : decide ((n : Int) < (n' : Int)) = true := decide_eq_true (by omega)
            have tn2 : decide (n < n') = true := decide_eq_true (by omega)
            clear hnn
            go_wp2_with (go_at_call 49; refine (readhead_any As cs s1 rm _ R0.out (by have := BB.out.size; simp; omega) hlc hr0 hr1).mono ?_; rw [← RE1.out]; rintro e w5 ⟨rfl, hB5⟩; have hB6 := hB5.mono (Nat.le_refl _); have HB5 := Lib.hid hB5; have bt5 := (BT.out.alloc _).below hB5 (BT.out.alloc _).lt; have cbt := bt5.cell; have fbt := bt5.frozen; have BT5 := Lib.hid bt5; clear hB5 hB6 bt5 q0 a0 hca)
            go_roundw
            case rel => exact ⟨2, by omega, by go_num, by show _ = Value.bool (newV _ _).isSome; rw [BE.out]; rfl, by show Blk _ _ _ (txC (newV _ _)); rw [BE.out]; exact set3_blk BT5.out _ _ _, set3_far (D4.out.below HB5.out D4.out.lt) (by omega) _ _ _, set3_far ((ZZ.out.alloc _).below HB5.out (ZZ.out.alloc _).lt) (by omega) _ _ _, bel_set3 (keepB HB5.out (keepB (below_one wr _) BB.out)) (by omega) _ _ _⟩
            case measure => simp [intOf]
          · have BE := Lib.hid (show newV (some (n, m)) (some (n', m')) = some (0, n, m) by simp only [newV]; rw [if_neg hnn])
            have tn : decide ((n : Int) < (n' : Int)) = false := decide_eq_false (by omega)
            have tn2 : decide (n < n') = false := decide_eq_false (by omega)
            clear hnn
            go_wp2_with (go_at_call 49; refine (readhead_any As cs s1 rm _ R0.out (by have := BB.out.size; simp; omega) hlc hr0 hr1).mono ?_; rw [← RE1.out]; rintro e w5 ⟨rfl, hB5⟩; have hB6 := hB5.mono (Nat.le_refl _); have HB5 := Lib.hid hB5; have bt5 := (BT.out.alloc _).below hB5 (BT.out.alloc _).lt; have cbt := bt5.cell; have fbt := bt5.frozen; have BT5 := Lib.hid bt5; clear hB5 hB6 bt5 q0 a0 hca)
            go_roundw
            case rel => exact ⟨2, by omega, by go_num, by show _ = Value.bool (newV _ _).isSome; rw [BE.out]; rfl, by show Blk _ _ _ (txC (newV _ _)); rw [BE.out]; exact BT5.out, D4.out.below HB5.out D4.out.lt, (ZZ.out.alloc _).below HB5.out (ZZ.out.alloc _).lt, keepB HB5.out (keepB (below_one wr _) BB.out)⟩
            case measure => simp [intOf]
    · have hbe : bestN r0 r1 2 = nd := HNEW.out.symm
      rw [hbe] at BT ⊢
      have bb := BT.out
      have zc := ZZ.out.cell
      have zf := ZZ.out.frozen
      have hne : ¬ w.heap.size + 1 = w.heap.size + 1 + 1 := by omega
      rcases nd with _ | ⟨k, n, m⟩
      · have cb := (show Blk wr (w.heap.size + 1 + 1) 53 #[.int .i64 0, .int .i64 0, .int .i64 0] from bb).cell
        simp only [Option.isSome_none]
        clear bb hbe
        go_wp2
        refine bodyPost_ret (v := .tuple #[.agg #[.int .i64 0, .int .i64 0, .int .i64 0], .bool false]) (by simp [results, Tryd.results34, go_sem, zc]) rfl ?_
        exact ⟨rfl, bel_set3 BB.out (by omega) _ _ _⟩
      · have cb := (show Blk wr (w.heap.size + 1 + 1) 53 #[.int .i64 (k : Int), .int .i64 (n : Int), .int .i64 (m : Int)] from bb).cell
        simp only [Option.isSome_some]
        clear bb hbe
        go_wp2
        refine bodyPost_ret (v := .tuple #[.agg #[.int .i64 (k : Int), .int .i64 (n : Int), .int .i64 (m : Int)], .bool true]) (by simp [results, Tryd.results34, go_sem, zc]) rfl ?_
        exact ⟨rfl, bel_set3 BB.out (by omega) _ _ _⟩
end Go.Proofs.YtgeofnemlijbgaaDoor
