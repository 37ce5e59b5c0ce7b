/- The document's wiped. The document's Scrub. -/
import Derived.Test.YtgeofnemlijbgaaDoorVX4
import Derived.Test.YtgeofnemlijbgaaDoorVJ
namespace Go.Proofs.YtgeofnemlijbgaaDoor
open Go.RowKit
set_option linter.unusedVariables false
set_option linter.unusedSimpArgs false

/-- Zeros into a sector, if it has others. -/
def wipe1 (s : List UInt8) (i : Nat) : List Wr := if dirtyB s then [((i : Int), zeros 64)] else []
/-- A call hands back writes in memory of its own. -/
def W1Ret (w : World) (l : List Wr) (e : Ending) (w' : World) : Prop :=
  ∃ A c xs, e = .returned (.slice A l.length c) ∧ OwnW w' w.heap.size (.slice A l.length c) xs l ∧ Below w.heap.size w w'
theorem dirty_iff0 {s : List UInt8} (h : s.length = 64) : dirtyB s = false ↔ s = zeros 64 := by
  constructor
  · intro hd
    unfold zeros
    rw [List.eq_replicate_iff]
    refine ⟨h, fun b hb => ?_⟩
    unfold dirtyB at hd
    rw [List.any_eq_false] at hd
    have := hd b hb
    simpa using this
  · intro e
    subst e
    unfold dirtyB zeros
    rw [List.any_eq_false]
    intro b hb
    have := List.eq_of_mem_replicate hb
    simp [this]
theorem conv_z0 {W : World} {Z : ByteArray} (hZ : Z = ⟨(zeros 64).toArray⟩) : (convert 25 9 (.slice (some ⟨W.heap.size, 0, none⟩) 64 64)).run Tryd.prog (W.alloc (.cells z64 5)) = .ok (.string Z) (W.alloc (.cells z64 5)) := by
  have h := own_rd (own_z64 W W.heap.size (Nat.le_refl _))
  have e : (zeros 64).length = 64 := zeros_length 64
  have := conv_rd (l := zeros 64) (A := some ⟨W.heap.size, 0, none⟩) (by rw [e]; exact h) 64
  rw [e] at this
  rw [hZ]
  exact this
theorem conv_z0d {W : World} {Z : ByteArray} (hZ : Z = ⟨(zeros 64).toArray⟩) : (convert 25 9 (.slice (some ⟨W.heap.size, 0, none⟩) 64 64)).run Tryd.prog (W.alloc (.cells z64 5)).drew = .ok (.string Z) (W.alloc (.cells z64 5)).drew := by
  have h : Rd (W.alloc (.cells z64 5)).drew (W.alloc (.cells z64 5)).drew.heap.size (some ⟨W.heap.size, 0, none⟩) 64 (bvs (zeros 64)) := own_rd (own_z64 W W.heap.size (Nat.le_refl _))
  have e : (zeros 64).length = 64 := zeros_length 64
  have := conv_rd (l := zeros 64) (A := some ⟨W.heap.size, 0, none⟩) (by rw [e]; exact h) 64
  rw [e] at this
  rw [hZ]
  exact this
theorem keep_w {W w' : World} {b x : Nat} {ad : Addr} {c : Nat} {d : Dsk} {As : Option Addr} {cs : Nat} {s : List UInt8} {S : ByteArray} (hS : S = ⟨s.toArray⟩) (hD : DBox W b (some ad) c d) (hx : (ad.add x).block < W.heap.size) (hc : W.cell? (ad.add x) = some (.slice As s.length cs)) (hR : Rd W W.heap.size As s.length (bvs s)) (h : Below W.heap.size W w') :
    w'.cell? ⟨b, 0, none⟩ = some (.slice (some ad) d.secs.length c) ∧ w'.cell? (ad.add x) = some (.slice As s.length cs) ∧ (convert 25 9 (.slice As s.length cs)).run Tryd.prog w' = .ok (.string S) w' ∧ Below W.heap.size W w' :=
  ⟨(hD.after h).cells.1, (h.cell (p := ad.add x) hx).trans hc, conv_s0 hS w' _ As cs (hR.below h), h⟩

set_option maxRecDepth 100000 in
set_option maxHeartbeats 4000000 in
theorem rwiped_any (A : Option Addr) (c : Nat) (d : Dsk) (x : Nat) (w : World) (hd : Bss w w.heap.size A d.secs.length d.secs) (h1 : d.secs.length ≤ c) (h2 : c ≤ maxLen) (hck : checkB d.secs = true) (hx : x < d.secs.length) :
    Calls Tryd.prog 46 #[dvD A c d, .int .i64 (x : Int)] w (W1Ret w (wipe1 (secN d x) x)) := by
  have hs0 := sec_at hx
  obtain ⟨s, hs⟩ : ∃ s, s = secN d x := ⟨_, rfl⟩
  rw [← hs] at hs0 ⊢
  have h64 := checkB_at hck hs0
  obtain ⟨ad, As, cs, s', rfl, hb, hs', hc', hlc, hcm, hR⟩ := hd.at_ (k := x) hx
  rw [hs0] at hs'
  injection hs' with hs'
  subst hs'
  obtain ⟨W0, hW0⟩ : ∃ W, W = w.alloc (.cells #[.slice (some ad) d.secs.length c, .int .i64 d.left, .int .i64 d.torn, .bool d.off, .int .i64 d.done] 24) := ⟨_, rfl⟩
  have D0 : Hid (DBox W0 w.heap.size (some ad) c d) := Lib.hid (by rw [hW0]; exact DBox.arg hd h1 h2)
  have B0 : Hid (Below w.heap.size w W0) := Lib.hid (by rw [hW0]; exact below_one w _)
  have hlt : (ad.add x).block < W0.heap.size := by rw [block_of_add]; have := B0.out.size; omega
  have hcc : W0.cell? (ad.add x) = some (.slice As s.length cs) := (B0.out.cell (p := ad.add x) (by rw [block_of_add]; exact hb)).trans hc'
  have HR := Lib.hid ((hR.below B0.out).more B0.out.size)
  have HLT := Lib.hid hlt
  have HCC := Lib.hid hcc
  obtain ⟨S, hS⟩ : ∃ S : ByteArray, S = ⟨s.toArray⟩ := ⟨_, rfl⟩
  obtain ⟨Z, hZ⟩ : ∃ S : ByteArray, S = ⟨(zeros 64).toArray⟩ := ⟨_, rfl⟩
  have HZ := Lib.hid hZ
  have HS := Lib.hid hS
  have hk0 : (0 : Int) ≤ (x : Int) := by omega
  have hk1 : (x : Int) < (d.secs.length : Int) := by omega
  have KW := Lib.hid (fun w' => keep_w (w' := w') HS.out D0.out HLT.out HCC.out HR.out)
  have hmk := run_make64
  have kz := fun W : World => conv_z0 (W := W) HZ.out
  have kzd := fun W : World => conv_z0d (W := W) HZ.out
  clear hd h1 h2 hck hx hs hs0 hb hc' hlc hcm hR hlt hcc
  cases hdt : dirtyB s
  · obtain rfl : Z = S := by rw [hZ, hS, (dirty_iff0 h64).1 hdt]
    have u1 : (Z.toList == Z.toList) = true := by simp
    have hw1 : wipe1 s x = [] := by unfold wipe1; rw [hdt]; rfl
    rw [hw1]
    clear hw1 hdt h64 hS hZ
    go_enter Tryd.func46, Tryd.ntmps46
    go_upto_region 1 with (fail)
    rw [← hW0]
    clear hW0
    go_region_held_law (fun w' => w'.cell? ⟨w.heap.size, 0, none⟩ = some (.slice (some ad) d.secs.length c) ∧ w'.cell? (ad.add x) = some (.slice As s.length cs) ∧ (convert 25 9 (.slice As s.length cs)).run Tryd.prog w' = .ok (.string Z) w' ∧ Below W0.heap.size W0 w')
      ((refine KW.out _ ?_; simp only [Below.refl, bel_dr, bel_al, *]))
      (fail)
    go_wp2
    go_ret
    exact ⟨none, 0, [], rfl, OwnW.nil _ _, bel_dr (bel_al B0.out)⟩
  · obtain ⟨u1, u2⟩ : (S.toList == Z.toList) = false ∧ ¬ S.toList = Z.toList := by
      have hne : ¬ s = zeros 64 := fun h => by rw [(dirty_iff0 h64).2 h] at hdt; cases hdt
      have h1 : ¬ S.toList = Z.toList := by rw [hZ, hS]; simpa using hne
      exact ⟨by simpa using h1, h1⟩
    have hw1 : wipe1 s x = [((x : Int), zeros 64)] := by unfold wipe1; rw [hdt]; rfl
    rw [hw1]
    clear hw1 hdt h64 hS hZ
    go_enter Tryd.func46, Tryd.ntmps46
    go_upto_region 1 with (fail)
    rw [← hW0]
    clear hW0
    go_region_held_law (fun w' => w'.cell? ⟨w.heap.size, 0, none⟩ = some (.slice (some ad) d.secs.length c) ∧ w'.cell? (ad.add x) = some (.slice As s.length cs) ∧ (convert 25 9 (.slice As s.length cs)).run Tryd.prog w' = .ok (.string S) w' ∧ Below W0.heap.size W0 w')
      ((refine KW.out _ ?_; simp only [Below.refl, bel_dr, bel_al, *]))
      (fail)
    go_wp2
    have BY : Below w.heap.size w (W0.alloc (.cells z64 5)) := bel_al B0.out
    have z := own_z64 (W0.alloc (.cells z64 5)) w.heap.size BY.size
    have t := own_two ((W0.alloc (.cells z64 5)).alloc (.cells z64 5)) w.heap.size (by have := B0.out.size; simp; omega) (.int .i64 (x : Int)) (.slice (some ⟨(W0.alloc (.cells z64 5)).heap.size, 0, none⟩) 64 64)
    have O := ownW_one (x := ((x : Int), zeros 64)) t (z.alloc _)
    simp only [World.size_alloc] at O
    go_ret
    exact ⟨_, _, _, rfl, O.drew, bel_dr (bel_al (bel_al BY))⟩
end Go.Proofs.YtgeofnemlijbgaaDoor

namespace Go.Proofs.YtgeofnemlijbgaaDoor
open Go.RowKit
set_option linter.unusedVariables false
set_option linter.unusedSimpArgs false

theorem wipe_succ {d : Dsk} {a k : Nat} : wipe (dts d.secs a (k + 1)) = wipe (dts d.secs a k) ++ wipe1 (secN d (a + k)) (a + k) := by
  rw [dts]
  unfold wipe1 wipe secN
  split <;> simp [*]
theorem wipe_lenr (ss : List (List UInt8)) (a k : Nat) : (wipe (dts ss a k)).length ≤ k := by
  unfold wipe
  rw [List.length_map]
  exact dts_len ss a k
theorem wipe1_len (s : List UInt8) (i : Nat) : (wipe1 s i).length ≤ 1 := by unfold wipe1; split <;> simp

/-- What a round of cleaning keeps. -/
structure RsI (w W : World) (DC : Array Value) (V : Value) (xs : List Value) (l : List Wr) : Prop where
  own : OwnW W w.heap.size V xs l
  box : Blk W w.heap.size 24 DC
  bel : Below w.heap.size w W
theorem RsI.next {w W w2 w9 : World} {DC : Array Value} {A0 A2 A9 : Option Addr} {c0 c2 c9 base : Nat} {xs xs2 : List Value} {l m : List Wr} (h : RsI w W DC (.slice A0 l.length c0) xs l) (hB : Below W.heap.size W w2)
    (h2 : OwnW w2 base (.slice A2 m.length c2) xs2 m) (hb : w.heap.size ≤ base) (hown : w9.ownsRow w.heap.size 60 2 (.slice A9 (l.length + m.length) c9) (l.length + m.length) (xs ++ xs2)) (hgr : w2.grownBy w9 (Value.slice A0 l.length c0).ownBlock) :
    RsI w w9 DC (.slice A9 (l.length + m.length) c9) (xs ++ xs2) (l ++ m) := by
  have oW := h.own.below hB
  have bW := keepB hB h.bel
  exact ⟨oW.app (h2.less hb) hown hgr, blk_far hgr (h.box.below hB h.box.lt) oW.outer (by decide), bW.grown hgr bW.size (fun k e => by obtain ⟨_, _, hh, _⟩ := own_block oW.outer e; exact hh)⟩

set_option maxRecDepth 100000 in
set_option maxHeartbeats 8000000 in
theorem rscrub_any (A : Option Addr) (c : Nat) (d : Dsk) (w : World) (hd : Bss w w.heap.size A d.secs.length d.secs) (h1 : d.secs.length ≤ c) (h2 : c ≤ maxLen) (hs : Sm d.secs) :
    Calls Tryd.prog 23 #[dvD A c d] w (WRet w (scrubD d)) := by
  obtain ⟨i6, hi6, hz6, hs6, hb6⟩ := info_parts infoTW
  have D0 := Lib.hid (DBox.arg hd h1 h2)
  have B0 := Lib.hid (below_one w (.cells #[.slice A d.secs.length c, .int .i64 d.left, .int .i64 d.torn, .bool d.off, .int .i64 d.done] 24))
  obtain ⟨q0, q1, q2, q3, q4⟩ := D0.out.cells
  have hml : d.secs.length ≤ maxLen := by have := hs.1; unfold maxLen; omega
  have HML := Lib.hid hml
  have HS := Lib.hid hs
  cases hck : checkB d.secs
  · have hl : scrubD d = ([], 1) := by unfold scrubD; rw [hck]; rfl
    rw [hl]
    have HCK := Lib.hid hck
    clear hd h1 h2 hs hml hck hl
    go_enter Tryd.func23, Tryd.ntmps23
    go_wp2_with (go_at_call 38; refine (rcheck_any A d.secs.length c d.left d.torn d.off d.done d.secs _ D0.out.secs HML.out).mono ?_; rw [HCK.out]; rintro e w1 ⟨rfl, hB1⟩)
    go_ret2
    exact ⟨none, 0, [], rfl, OwnW.nil _ _, keepB hB1 B0.out⟩
  · have HCK := Lib.hid hck
    cases hn : newestD d with
    | none =>
      have hl : scrubD d = ([], 181) := by unfold scrubD; rw [hck, if_pos rfl, hn]
      rw [hl]
      have HN := Lib.hid hn
      clear hd h1 h2 hs hml hck hl hn
      go_enter Tryd.func23, Tryd.ntmps23
      go_wp2_with (first
        | (go_at_call 38; refine (rcheck_any A d.secs.length c d.left d.torn d.off d.done d.secs _ D0.out.secs HML.out).mono ?_; rw [HCK.out]; rintro e w1 ⟨rfl, hB1⟩; have D1 := Lib.hid (D0.out.after hB1); have B1 := Lib.hid (keepB hB1 B0.out); clear hB1 q0 q1 q2 q3 q4; obtain ⟨q0, q1, q2, q3, q4⟩ := D1.out.cells)
        | (go_at_call 39; refine (rnewest_any A c d _ D1.out.secs D1.out.cap D1.out.cm HCK.out).mono ?_; rw [HN.out]; rintro e w2 ⟨rfl, hB2⟩; have B2 := Lib.hid (keepB hB2 B1.out); clear hB2 q0 q1 q2 q3 q4; dsimp only [rnV]))
      go_ret2
      exact ⟨none, 0, [], rfl, OwnW.nil _ _, B2.out⟩
    | some v =>
      obtain ⟨k, n, m⟩ := v
      have hl : scrubD d = (wipe (dts d.secs (atD d (1 - k)) (halfD d)) ++ wipe (dts d.secs (atD d k + 1 + (m + 63) / 64) (halfD d - 1 - (m + 63) / 64)), 0) := by unfold scrubD; rw [hck, if_pos rfl, hn]
      obtain ⟨hk1, hn1, hm1⟩ := newest_le hn
      obtain ⟨g1, g2, g3, g4⟩ := halfD_eq hck
      have hlen := (checkB_len hck).2
      have l1 := atD_le hck (1 - k)
      have l2 := atD_le hck k
      have har := areaN_at hck hk1
      have har1 := areaN_at hck (k := 1 - k) (Nat.sub_le _ _)
      rw [room_half hck] at hm1
      rw [hl]
      have hsub : IntKind.i64.wrap (1 - (k : Int)) = ((1 - k : Nat) : Int) := (IntWalk.i64_in _ (by omega)).trans (by omega)
      have hw63 : IntKind.i64.wrap ((m : Int) + 63) = (m : Int) + 63 := IntWalk.i64_in _ (by omega)
      have ht63 : ((m : Int) + 63).tdiv 64 = (((m + 63) / 64 : Nat) : Int) := by rw [Int.tdiv_eq_ediv_of_nonneg (by omega)]; omega
      have ht63' : ((m : Int) + 63) / 64 = (((m + 63) / 64 : Nat) : Int) := by omega
      have huse : (m + 63) / 64 ≤ halfD d - 1 := by omega
      obtain ⟨u, hu⟩ : ∃ u, u = (m + 63) / 64 := ⟨_, rfl⟩
      rw [← hu] at huse ht63 ht63' ⊢
      have hwu : IntKind.i64.wrap (1 + (u : Int)) = ((1 + u : Nat) : Int) := (IntWalk.i64_in _ (by omega)).trans (by omega)
      have hwu2 : IntKind.i64.wrap (u : Int) = (u : Int) := IntWalk.i64_in _ (by omega)
      have HAR := Lib.hid har
      have HAR1 := Lib.hid har1
      have HN := Lib.hid hn
      have HD := Lib.hid hd
      have H1 := Lib.hid h1
      have H2 := Lib.hid h2
      obtain ⟨h, hh⟩ : ∃ h, h = halfD d := ⟨_, rfl⟩
      rw [← hh] at HAR HAR1 l1 l2 huse g4 g2 g3 ⊢
      obtain ⟨a0, ha0⟩ : ∃ z : Nat, z = atD d k := ⟨_, rfl⟩
      obtain ⟨a1, ha1⟩ : ∃ z : Nat, z = atD d (1 - k) := ⟨_, rfl⟩
      rw [← ha0] at HAR l2 ⊢
      rw [← ha1] at HAR1 l1 ⊢
      have G := Lib.hid (And.intro l1 (And.intro l2 (And.intro huse (And.intro g4 hlen))))
      have hkn : ¬ (k : Int) < 0 := by omega
      have hkn2 : decide ((k : Int) < 0) = false := decide_eq_false hkn
      clear hd h1 h2 hs hml hck hl hn hk1 hn1 hm1 g1 g2 g3 g4 hlen l1 l2 har har1 hh ha0 ha1 hu huse
      go_enter Tryd.func23, Tryd.ntmps23
      go_wp2_with (first
        | (go_at_call 38; refine (rcheck_any A d.secs.length c d.left d.torn d.off d.done d.secs _ D0.out.secs HML.out).mono ?_; rw [HCK.out]; rintro e w1 ⟨rfl, hB1⟩; have D1 := Lib.hid (D0.out.after hB1); have B1 := Lib.hid (keepB hB1 B0.out); clear hB1 q0 q1 q2 q3 q4; obtain ⟨q0, q1, q2, q3, q4⟩ := D1.out.cells)
        | (go_at_call 39; refine (rnewest_any A c d _ D1.out.secs D1.out.cap D1.out.cm HCK.out).mono ?_; rw [HN.out]; rintro e w2 ⟨rfl, hB2⟩; have D2 := Lib.hid (D1.out.after hB2); have B2 := Lib.hid (keepB hB2 B1.out); clear hB2 q0 q1 q2 q3 q4; obtain ⟨q0, q1, q2, q3, q4⟩ := D2.out.cells; dsimp only [rnV])
        | (go_at_call 19; refine (rarea_any _ _ _).mono ?_; rw [HAR1.out]; rintro e w3 ⟨rfl, hB3⟩; have b3 := D2.out.blk.below hB3 D2.out.blk.lt; have B3 := Lib.hid (keepB hB3 B2.out); clear hB3 q0 q1 q2 q3 q4))
      clear D0 D1 D2 B0 B1 B2
      go_loopw [8, 11] (fun v i wr => ∃ (j : Nat) (xs : List Value), j ≤ h ∧ i = .int .i64 (j : Int) ∧ RsI w wr #[.slice A d.secs.length c, .int .i64 d.left, .int .i64 d.torn, .bool d.off, .int .i64 d.done] v xs (wipe (dts d.secs a1 j))) (fun _ i _ => h - (intOf i).toNat)
      case atStart => exact ⟨0, [], Nat.zero_le _, rfl, OwnW.nil _ _, b3, B3.out⟩
      case round =>
        obtain ⟨j, xs, hj, rfl, hI⟩ := hrel
        obtain ⟨A0, c0, rfl, e1, e2⟩ := hI.own.form
        have hln : (wipe (dts d.secs a1 j)).length ≤ 5000 := by have := G.out; have h3 := wipe_lenr d.secs a1 j; omega
        by_cases hlt : j < h
        · have hi1 : ((j : Nat) : Int) < (h : Int) := by omega
          have hi2 : decide (((j : Nat) : Int) < (h : Int)) = true := decide_eq_true hi1
          have hwx : IntKind.i64.wrap ((a1 : Int) + (j : Int)) = ((a1 + j : Nat) : Int) := (IntWalk.i64_in _ (by have := G.out; omega)).trans (by omega)
          have hj2k : j < 2048 := by have := G.out; omega
          have hxl : a1 + j < d.secs.length := by have := G.out; omega
          have hw1 : wipe1 (secN d (a1 + j)) (a1 + j) = wipe1 (secN d (a1 + j)) (a1 + j) := rfl
          have I := Lib.hid hI
          obtain ⟨l, hl⟩ : ∃ l, l = wipe (dts d.secs a1 j) := ⟨_, rfl⟩
          rw [← hl] at I hln e1 ⊢
          have HL := Lib.hid hl
          obtain ⟨m1, hm1⟩ : ∃ m1, m1 = wipe1 (secN d (a1 + j)) (a1 + j) := ⟨_, rfl⟩
          have HM1 := Lib.hid hm1
          have hml1 : m1.length ≤ 1 := by rw [hm1]; exact wipe1_len _ _
          have DW := Lib.hid (DBox.mk (A := A) (c := c) (d := d) hI.box ((HD.out.below hI.bel).more hI.bel.size) H1.out H2.out)
          have q0 := hI.box.cell
          have q00 := q0 0
          have q01 := q0 1
          have q02 := q0 2
          have q03 := q0 3
          have q04 := q0 4
          clear hI hl hm1 hw1 q0
          go_wp2_with (first
            | (at_builtin; refine wpList_append_any _ rfl (.tmp 41) (.tmp 46) 32 rfl w.heap.size 60 i6 (.agg #[.int .i64 0, .slice none 0 0]) 2 32 Tryd.underlying32 hi6 hz6 hs6 hb6 rfl (by omega) (.slice A0 l.length c0) l.length xs rfl (I.out.own.below B8.out).outer _ A8 m1.length c8 xs8 rfl (own_rdn O8.out.outer) (wrs_one O8.out) (by unfold maxLen; omega) (by omega) (by have h1 := I.out.bel.size; have h2 := B8.out.size; omega) ?_; intro v9 w9 hown9 hgr9 hat9)
            | (go_at_call 46; refine (rwiped_any A c d (a1 + j) _ DW.out.secs H1.out H2.out HCK.out hxl).mono ?_; rw [← HM1.out]; rintro e w8 ⟨A8, c8, xs8, rfl, hO8, hB8⟩; have O8 := Lib.hid hO8; have B8 := Lib.hid hB8; clear hO8 hB8))
          obtain ⟨A9, c9, rfl, f1, f2⟩ := own_form hown9
          have I9 := I.out.next B8.out O8.out I.out.bel.size hown9 hgr9
          rw [← List.length_append] at I9 f1 ⊢
          have hnx : l ++ m1 = wipe (dts d.secs a1 (j + 1)) := by rw [HL.out, HM1.out]; exact wipe_succ.symm
          rw [hnx] at I9 f1 ⊢
          go_roundw
          case rel => exact ⟨j + 1, _, by omega, by first | rfl | go_num | (rw [hwj]), I9⟩
          case measure => simp [intOf]; omega
        · obtain rfl : j = h := by omega
          have hi1 : ¬ ((j : Nat) : Int) < (j : Int) := by omega
          have q0 := hI.box.cell
          have q00 := q0 0
          have I := Lib.hid hI
          clear hI q0
          go_wp2_with (go_at_call 19; refine (rarea_any _ _ _).mono ?_; rw [HAR.out]; rintro e w4 ⟨rfl, hB4⟩; have B4 := Lib.hid hB4; clear hB4 q00)
          go_loopw [8, 14] (fun v i wr => ∃ (i2 : Nat) (xs : List Value), i2 ≤ j - 1 - u ∧ i = .int .i64 ((1 + u + i2 : Nat) : Int) ∧ RsI w wr #[.slice A d.secs.length c, .int .i64 d.left, .int .i64 d.torn, .bool d.off, .int .i64 d.done] v xs (wipe (dts d.secs a1 j) ++ wipe (dts d.secs (a0 + 1 + u) i2))) (fun _ i _ => j - (intOf i).toNat)
          case atStart =>
            refine ⟨0, xs, Nat.zero_le _, by first | rfl | simp, ?_⟩
            have : wipe (dts d.secs a1 j) ++ wipe (dts d.secs (a0 + 1 + u) 0) = wipe (dts d.secs a1 j) := by simp [dts, wipe]
            rw [this]
            exact ⟨I.out.own.below B4.out, I.out.box.below B4.out I.out.box.lt, keepB B4.out I.out.bel⟩
          case round =>
            obtain ⟨i2, xs', hi2', rfl, hI⟩ := hrel
            obtain ⟨A0', c0', rfl, e1', e2'⟩ := hI.own.form
            have hln' : (wipe (dts d.secs a1 j) ++ wipe (dts d.secs (a0 + 1 + u) i2)).length ≤ 5000 := by have := G.out; have h3 := wipe_lenr d.secs a1 j; have h4 := wipe_lenr d.secs (a0 + 1 + u) i2; rw [List.length_append]; omega
            clear e1 e2 hln
            by_cases hlt : i2 < j - 1 - u
            · obtain ⟨y, hy⟩ : ∃ y, y = 1 + u + i2 := ⟨_, rfl⟩
              have hyj : y < j := by omega
              have hnx0 : wipe (dts d.secs a1 j) ++ wipe (dts d.secs (a0 + 1 + u) (i2 + 1)) = (wipe (dts d.secs a1 j) ++ wipe (dts d.secs (a0 + 1 + u) i2)) ++ wipe1 (secN d (a0 + y)) (a0 + y) := by
                rw [wipe_succ, ← List.append_assoc, show a0 + 1 + u + i2 = a0 + y by omega]
              have hy1 : ((1 + u + (i2 + 1) : Nat) : Int) = ((y + 1 : Nat) : Int) := by omega
              have HNX := Lib.hid hnx0
              have HY1 := Lib.hid hy1
              have HI2 := Lib.hid (show i2 + 1 ≤ j - 1 - u by omega)
              rw [← hy]
              have hi1 : (y : Int) < (j : Int) := by omega
              have hi2 : decide ((y : Int) < (j : Int)) = true := decide_eq_true hi1
              have hy2k : y < 2048 := by have := G.out; omega
              have hwx : IntKind.i64.wrap ((a0 : Int) + (y : Int)) = ((a0 + y : Nat) : Int) := (IntWalk.i64_in _ (by have := G.out; omega)).trans (by omega)
              have hxl : a0 + y < d.secs.length := by have := G.out; omega
              have I' := Lib.hid hI
              obtain ⟨l, hl⟩ : ∃ l, l = wipe (dts d.secs a1 j) ++ wipe (dts d.secs (a0 + 1 + u) i2) := ⟨_, rfl⟩
              rw [← hl] at I' hln' e1' HNX ⊢
              obtain ⟨m1, hm1⟩ : ∃ m1, m1 = wipe1 (secN d (a0 + y)) (a0 + y) := ⟨_, rfl⟩
              have HM1 := Lib.hid hm1
              have hml1 : m1.length ≤ 1 := by rw [hm1]; exact wipe1_len _ _
              have DW := Lib.hid (DBox.mk (A := A) (c := c) (d := d) hI.box ((HD.out.below hI.bel).more hI.bel.size) H1.out H2.out)
              have q0 := hI.box.cell
              have q00 := q0 0
              have q01 := q0 1
              have q02 := q0 2
              have q03 := q0 3
              have q04 := q0 4
              clear hI hl hm1 q0 hy hnx0 hy1 hlt hi2' I
              go_wp2_with (first
                | (at_builtin; refine wpList_append_any _ rfl (.tmp 65) (.tmp 70) 32 rfl w.heap.size 60 i6 (.agg #[.int .i64 0, .slice none 0 0]) 2 32 Tryd.underlying32 hi6 hz6 hs6 hb6 rfl (by omega) (.slice A0' l.length c0') l.length xs' rfl (I'.out.own.below B8.out).outer _ A8 m1.length c8 xs8 rfl (own_rdn O8.out.outer) (wrs_one O8.out) (by unfold maxLen; omega) (by omega) (by have h1 := I'.out.bel.size; have h2 := B8.out.size; omega) ?_; intro v9 w9 hown9 hgr9 hat9)
                | (go_at_call 46; refine (rwiped_any A c d (a0 + y) _ DW.out.secs H1.out H2.out HCK.out hxl).mono ?_; rw [← HM1.out]; rintro e w8 ⟨A8, c8, xs8, rfl, hO8, hB8⟩; have O8 := Lib.hid hO8; have B8 := Lib.hid hB8; clear hO8 hB8))
              obtain ⟨A9, c9, rfl, f1, f2⟩ := own_form hown9
              have I9 := I'.out.next B8.out O8.out I'.out.bel.size hown9 hgr9
              rw [← List.length_append] at I9 f1 ⊢
              have hnx : l ++ m1 = wipe (dts d.secs a1 j) ++ wipe (dts d.secs (a0 + 1 + u) (i2 + 1)) := by rw [HNX.out, HM1.out]
              rw [hnx] at I9 f1 ⊢
              go_roundw
              case rel => exact ⟨i2 + 1, _, HI2.out, by rw [HY1.out]; go_num, I9⟩
              case measure => simp [intOf]; omega
            · obtain rfl : i2 = j - 1 - u := by omega
              have hi3 : ¬ ((1 + u + (j - 1 - u) : Nat) : Int) < (j : Int) := by have := G.out; omega
              have I' := Lib.hid hI
              clear hI
              go_wp2
              go_ret2
              exact ⟨A0', c0', xs', by dsimp only; rw [List.length_append]; rfl, I'.out.own, I'.out.bel⟩
end Go.Proofs.YtgeofnemlijbgaaDoor
