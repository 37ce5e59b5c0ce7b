/- DiskTells: the walk. -/
import Derived.Test.YtgeofnemlijbgaaL0
namespace Go.Proofs.Ytgeofnemlijbgaa
open Go.RowKit
set_option linter.unusedVariables false

theorem newD_sm (n : Int) : Sm (newD n).1.secs := by
  unfold newD
  split
  · exact ⟨by simp, fun i l hl => by simp at hl⟩
  · refine ⟨by simp; omega, fun i l hl => ?_⟩
    have := List.mem_of_getElem? hl
    simp at this
    rw [this.2]
    simp [zeros]
section
variable {n : Int} {dr : Dsk} {er : Int} {w : World} {A : Option Addr} {c : Nat} {d : Dsk} {at_ : Int} {rl : List UInt8}
theorem new_r (hr : newD n = (dr, er)) : Calls Try.prog 10 #[.int .i64 n] w (DRet w dr fun v => .tuple #[v, .int .i64 er]) := by
  have := new_any n w
  rw [hr] at this
  exact this
theorem rnew_r (hr : newD n = (dr, er)) : Calls Try.prog 11 #[.int .i64 n] w (DRet w dr fun v => .tuple #[v, .int .i64 er]) := by
  have := rnew_any n w
  rw [hr] at this
  exact this
theorem read_r (hr : readD d at_ n = (rl, er)) (hd : Bss w w.heap.size A d.secs.length d.secs) (hcc : d.secs.length ≤ c) (hcm : c ≤ maxLen) (hs : Sm d.secs) (hi : -9223372036854775808 ≤ at_ ∧ at_ ≤ 9223372036854775807) :
    Calls Try.prog 12 #[dvD A c d, .int .i64 at_, .int .i64 n] w (BRet w rl fun v => .tuple #[v, .int .i64 er]) := by
  have := read_any A c d at_ n w hd hcc hcm hs hi.1 hi.2
  rw [hr] at this
  exact this
theorem rread_r (hr : readD d at_ n = (rl, er)) (hd : Bss w w.heap.size A d.secs.length d.secs) (hs : Sm d.secs) (hi : -9223372036854775808 ≤ at_ ∧ at_ ≤ 9223372036854775807) :
    Calls Try.prog 13 #[dvD A c d, .int .i64 at_, .int .i64 n] w (BRet w rl fun v => .tuple #[v, .int .i64 er]) := by
  have := rread_any A c d at_ n w hd hs hi.1 hi.2
  rw [hr] at this
  exact this
end
/-- What region 8 keeps: three boxes. -/
theorem keep3 {W w' : World} {b b1 b2 : Nat} {A A1 A2 : Option Addr} {c c1 c2 : Nat} {d d1 d2 : Dsk} (hd : DBox W b A c d) (hd1 : DBox W b1 A1 c1 d1) (hd2 : DBox W b2 A2 c2 d2) (h : Below W.heap.size W w') :
    w'.cell? ⟨b, 0, none⟩ = some (.slice A d.secs.length c) ∧ w'.cell? ⟨b, 1, none⟩ = some (.int .i64 d.left) ∧ w'.cell? ⟨b, 2, none⟩ = some (.int .i64 d.torn) ∧ w'.cell? ⟨b, 3, none⟩ = some (.bool d.off) ∧ w'.cell? ⟨b, 4, none⟩ = some (.int .i64 d.done) ∧
    w'.cell? ⟨b1, 0, none⟩ = some (.slice A1 d1.secs.length c1) ∧ w'.cell? ⟨b1, 1, none⟩ = some (.int .i64 d1.left) ∧ w'.cell? ⟨b1, 2, none⟩ = some (.int .i64 d1.torn) ∧ w'.cell? ⟨b1, 3, none⟩ = some (.bool d1.off) ∧ w'.cell? ⟨b1, 4, none⟩ = some (.int .i64 d1.done) ∧
    w'.cell? ⟨b2, 0, none⟩ = some (.slice A2 d2.secs.length c2) ∧ w'.cell? ⟨b2, 1, none⟩ = some (.int .i64 d2.left) ∧ w'.cell? ⟨b2, 2, none⟩ = some (.int .i64 d2.torn) ∧ w'.cell? ⟨b2, 3, none⟩ = some (.bool d2.off) ∧ w'.cell? ⟨b2, 4, none⟩ = some (.int .i64 d2.done) ∧ Below W.heap.size W w' := by
  obtain ⟨g0, g1, g2, g3, g4⟩ := (hd.after h).cells
  obtain ⟨h0, h1, h2, h3, h4⟩ := (hd1.after h).cells
  obtain ⟨i0, i1, i2, i3, i4⟩ := (hd2.after h).cells
  exact ⟨g0, g1, g2, g3, g4, h0, h1, h2, h3, h4, i0, i1, i2, i3, i4, h⟩
/-- What region 9 keeps: a box, two rows of bytes. -/
theorem keep4 {W w' : World} {b : Nat} {A Ar As : Option Addr} {c cr cs base1 base2 L : Nat} {d : Dsk} {l : List UInt8} {SR : ByteArray} (hL : L = l.length) (hd : DBox W b A c d) (hr : W.ownsRow base1 5 1 (.slice Ar l.length cr) l.length (bvs l)) (hs : W.ownsRow base2 5 1 (.slice As l.length cs) l.length (bvs l)) (hS : SR = ⟨l.toArray⟩) (h : Below W.heap.size W w') :
    w'.cell? ⟨b, 0, none⟩ = some (.slice A d.secs.length c) ∧ w'.cell? ⟨b, 1, none⟩ = some (.int .i64 d.left) ∧ w'.cell? ⟨b, 2, none⟩ = some (.int .i64 d.torn) ∧ w'.cell? ⟨b, 3, none⟩ = some (.bool d.off) ∧ w'.cell? ⟨b, 4, none⟩ = some (.int .i64 d.done) ∧
    (convert 30 9 (.slice Ar L cr)).run Try.prog w' = .ok (.string SR) w' ∧ (convert 30 9 (.slice As L cs)).run Try.prog w' = .ok (.string SR) w' ∧ Below W.heap.size W w' := by
  subst hL
  subst hS
  obtain ⟨g0, g1, g2, g3, g4⟩ := (hd.after h).cells
  exact ⟨g0, g1, g2, g3, g4, conv_rd (own_rd (own_b h hr)) cr, conv_rd (own_rd (own_b h hs)) cs, h⟩

set_option maxRecDepth 100000 in
set_option maxHeartbeats 4000000 in
theorem diskTells_walk (A : Option Addr) (c : Nat) (d : Dsk) (n at_ many : Int) (w : World) (hd : Bss w w.heap.size A d.secs.length d.secs) (h1 : d.secs.length ≤ c) (h2 : c ≤ maxLen) (hat : -9223372036854775808 ≤ at_ ∧ at_ ≤ 9223372036854775807) :
    Calls Try.prog 3 #[dvD A c d, .int .i64 n, .int .i64 at_, .int .i64 many] w fun e w' => e = .returned (.bool true) ∧ Below w.heap.size w w' := by
  obtain ⟨dr, er, hr⟩ : ∃ dr er, newD n = (dr, er) := ⟨_, _, rfl⟩
  obtain ⟨rl, re, hrd⟩ : ∃ rl re, readD d at_ many = (rl, re) := ⟨_, _, rfl⟩
  have D0 := Lib.hid (DBox.arg hd h1 h2)
  have HR := Lib.hid hr
  have HRD := Lib.hid hrd
  have HAT := Lib.hid hat
  have HS2 : Hid (Sm dr.secs) := Lib.hid (by have := newD_sm n; rw [hr] at this; exact this)
  have hmx := Nat.le_trans h1 h2
  clear hd hr hrd h1 h2 hat
  cases hsm : smallB d.secs
  · obtain ⟨ss, left, torn, off, done⟩ := d
    dsimp only at hsm D0
    go_enter Try.func3, Try.ntmps3
    go_wp2_with (first
      | (go_at_call 8; refine (awake_any _).mono ?_; rintro e w1 ⟨rfl, hB1⟩; have d1 := Lib.hid (D0.out.after hB1); obtain ⟨qa0, qa1, qa2, qa3, qa4⟩ := d1.out.cells)
      | (go_at_call 9; refine (small_any A ss.length c left torn off done ss _ d1.out.secs).mono ?_; rintro e w2 ⟨rfl, hB2⟩))
    go_ret
    exact ⟨rfl, (keepB hB2 (keepB hB1 (below_one w _)))⟩
  · have hs := Lib.hid (sm_of_small hsm)
    by_cases hn : 3000 < n
    · obtain ⟨ss, left, torn, off, done⟩ := d
      dsimp only at hsm D0 hs
      go_enter Try.func3, Try.ntmps3
      go_wp2_with (first
        | (go_at_call 8; refine (awake_any _).mono ?_; rintro e w1 ⟨rfl, hB1⟩; have d1 := Lib.hid (D0.out.after hB1); obtain ⟨qa0, qa1, qa2, qa3, qa4⟩ := d1.out.cells)
        | (go_at_call 9; refine (small_any A ss.length c left torn off done ss _ d1.out.secs).mono ?_; rintro e w2 ⟨rfl, hB2⟩))
      go_ret
      exact ⟨rfl, (keepB hB2 (keepB hB1 (below_one w _)))⟩
    · have hn' : n ≤ 3000 := by omega
      clear hn
      obtain ⟨ss, left, torn, off, done⟩ := d
      obtain ⟨tss, tleft, ttorn, toff, tdone⟩ := dr
      dsimp only at hsm D0 hs HS2 hmx
      go_enter Try.func3, Try.ntmps3
      go_upto_region 8 with (first
        | (go_at_call 8; refine (awake_any _).mono ?_; rintro e w1 ⟨rfl, hB1⟩; have d1 := Lib.hid (D0.out.after hB1); obtain ⟨qa0, qa1, qa2, qa3, qa4⟩ := d1.out.cells)
        | (go_at_call 9; refine (small_any A ss.length c left torn off done ss _ d1.out.secs).mono ?_; rintro e w2 ⟨rfl, hB2⟩; have d2 := Lib.hid (d1.out.after hB2))
        | (go_at_call 10; refine (new_r HR.out).mono ?_; rintro e w4 ⟨A4, c4, vs4, rfl, hO4, hB4⟩; have d4 := Lib.hid ((d2.out.after hB4).alloc (.cells #[.slice A4 tss.length c4, .int .i64 tleft, .int .i64 ttorn, .bool toff, .int .i64 tdone] 24)); have x4 := Lib.hid (DBox.new hO4))
        | (go_at_call 11; refine (rnew_r HR.out).mono ?_; rintro e w5 ⟨A5, c5, vs5, rfl, hO5, hB5⟩; have d5 := Lib.hid ((d4.out.after hB5).alloc (.cells #[.slice A5 tss.length c5, .int .i64 tleft, .int .i64 ttorn, .bool toff, .int .i64 tdone] 24)); have x5 := Lib.hid ((x4.out.after hB5).alloc (.cells #[.slice A5 tss.length c5, .int .i64 tleft, .int .i64 ttorn, .bool toff, .int .i64 tdone] 24)); have y5 := Lib.hid (DBox.new hO5); obtain ⟨qd0, qd1, qd2, qd3, qd4⟩ := d5.out.cells)
        | (go_at_call 12; refine (read_r HRD.out d5.out.secs d5.out.cap d5.out.cm hs.out HAT.out).mono ?_; rintro e w6 ⟨v6, rfl, ho6, hB6⟩; obtain ⟨A6, c6, rfl, r1, r2⟩ := own_form ho6; have d6 := Lib.hid (d5.out.after hB6); obtain ⟨qe0, qe1, qe2, qe3, qe4⟩ := d6.out.cells)
        | (go_at_call 13; refine (rread_r HRD.out d6.out.secs hs.out HAT.out).mono ?_; rintro e w7 ⟨v7, rfl, ho7, hB7⟩; obtain ⟨A7, c7, rfl, r3, r4⟩ := own_form ho7))
      have d7 := Lib.hid (d6.out.after hB7)
      have x7 := Lib.hid ((x5.out.after hB6).after hB7)
      have y7 := Lib.hid ((y5.out.after hB6).after hB7)
      have o6 := Lib.hid (own_b hB7 ho6)
      have o7 := Lib.hid ho7
      have hBw : Below w.heap.size w w7 := keepB hB7 (keepB hB6 (bel_alloc (keepB hB5 (bel_alloc (keepB hB4 (keepB hB2 (keepB hB1 (below_one w _))))))))
      have HBw := Lib.hid hBw
      clear D0 d1 d2 d4 d5 d6 x4 x5 y5 hB1 hB2 hB4 hB5 hB6 hB7 hO4 hO5 ho6 ho7 hBw HR HRD qa0 qa1 qa2 qa3 qa4 qd0 qd1 qd2 qd3 qd4 qe0 qe1 qe2 qe3 qe4 r1 r2 r3 r4
      go_cut [18] (fun s18 wx => s18 = .bool true ∧ Below w7.heap.size w7 wx)
      case first =>
        have hK := Lib.hid (fun w' => keep3 (w' := w') d7.out x7.out y7.out)
        go_region_held3 (fun w' => w'.cell? ⟨w.heap.size, 0, none⟩ = some (.slice A ss.length c) ∧ w'.cell? ⟨w.heap.size, 1, none⟩ = some (.int .i64 left) ∧ w'.cell? ⟨w.heap.size, 2, none⟩ = some (.int .i64 torn) ∧ w'.cell? ⟨w.heap.size, 3, none⟩ = some (.bool off) ∧ w'.cell? ⟨w.heap.size, 4, none⟩ = some (.int .i64 done) ∧
            w'.cell? ⟨w4.heap.size, 0, none⟩ = some (.slice A4 tss.length c4) ∧ w'.cell? ⟨w4.heap.size, 1, none⟩ = some (.int .i64 tleft) ∧ w'.cell? ⟨w4.heap.size, 2, none⟩ = some (.int .i64 ttorn) ∧ w'.cell? ⟨w4.heap.size, 3, none⟩ = some (.bool toff) ∧ w'.cell? ⟨w4.heap.size, 4, none⟩ = some (.int .i64 tdone) ∧
            w'.cell? ⟨w5.heap.size, 0, none⟩ = some (.slice A5 tss.length c5) ∧ w'.cell? ⟨w5.heap.size, 1, none⟩ = some (.int .i64 tleft) ∧ w'.cell? ⟨w5.heap.size, 2, none⟩ = some (.int .i64 ttorn) ∧ w'.cell? ⟨w5.heap.size, 3, none⟩ = some (.bool toff) ∧ w'.cell? ⟨w5.heap.size, 4, none⟩ = some (.int .i64 tdone) ∧ Below w7.heap.size w7 w')
          ((refine hK.out _ ?_; simp only [Below.refl, bel_drew, *]))
          (first
            | (go_at_call 14; go_split_ands; refine (same_eq A13 A14 c13 c14 (onD ⟨ss, left, torn, off, done⟩) _ (bss_after hO13.bss hB14) hO14.bss hs.out).mono ?_; rintro e w15 ⟨rfl, hB15⟩; have hW15 := keepB hB15 (W := w7) (by with_reducible assumption))
            | (go_at_call 14; go_split_ands; refine (same_eq A10 A11 c10 c11 (limD ⟨ss, left, torn, off, done⟩ at_ many) _ (bss_after hO10.bss hB11) hO11.bss hs.out).mono ?_; rintro e w12 ⟨rfl, hB12⟩; have hW12 := keepB hB12 (W := w7) (by with_reducible assumption))
            | (go_at_call 14; go_split_ands; refine (same_eq A4 A5 c4 c5 ⟨tss, tleft, ttorn, toff, tdone⟩ _ (bss_after x7.out.secs (by with_reducible assumption)) (bss_after y7.out.secs (by with_reducible assumption)) HS2.out).mono ?_; rintro e w9 ⟨rfl, hB9⟩; have hW9 := keepB hB9 (W := w7) (by with_reducible assumption))
            | (go_at_call 15; go_split_ands; refine (limit_any A c ⟨ss, left, torn, off, done⟩ at_ many _ (bss_after d7.out.secs (by with_reducible assumption)) hs.out).mono ?_; rintro e w10 ⟨A10, c10, vs10, rfl, hO10, hB10⟩; have hW10 := keepB hB10 (W := w7) (by with_reducible assumption))
            | (go_at_call 16; go_split_ands; refine (rlimit_any A c ⟨ss, left, torn, off, done⟩ at_ many _ (bss_after d7.out.secs (by with_reducible assumption)) hs.out).mono ?_; rintro e w11 ⟨A11, c11, vs11, rfl, hO11, hB11⟩; have hW11 := keepB hB11 (W := w7) (by with_reducible assumption))
            | (go_at_call 17; go_split_ands; refine (on_any A c ⟨ss, left, torn, off, done⟩ _ (bss_after d7.out.secs (by with_reducible assumption)) hs.out).mono ?_; rintro e w13 ⟨A13, c13, vs13, rfl, hO13, hB13⟩; have hW13 := keepB hB13 (W := w7) (by with_reducible assumption))
            | (go_at_call 18; go_split_ands; refine (ron_any A c ⟨ss, left, torn, off, done⟩ _ (bss_after d7.out.secs (by with_reducible assumption)) hs.out).mono ?_; rintro e w14 ⟨A14, c14, vs14, rfl, hO14, hB14⟩; have hW14 := keepB hB14 (W := w7) (by with_reducible assumption)))
        go_wp2_with fail
        go_meet
        exact ⟨rfl, hW15⟩
      case rest =>
        obtain ⟨rfl, hB16⟩ := hcut
        have d16 := Lib.hid (d7.out.after hB16)
        have o16 := Lib.hid (own_b hB16 o6.out)
        have p16 := Lib.hid (own_b hB16 o7.out)
        have hBw := Lib.hid (keepB hB16 HBw.out)
        obtain ⟨SR, hSR⟩ : ∃ SR : ByteArray, SR = ⟨rl.toArray⟩ := ⟨_, rfl⟩
        have HSR := Lib.hid hSR
        clear hB16 hSR d7 x7 y7 o6 o7
        go_wp2_with fail
        have hK := Lib.hid (fun w' => keep4 (w' := w') rfl d16.out o16.out p16.out HSR.out)
        go_region_held3 (fun w' => w'.cell? ⟨w.heap.size, 0, none⟩ = some (.slice A ss.length c) ∧ w'.cell? ⟨w.heap.size, 1, none⟩ = some (.int .i64 left) ∧ w'.cell? ⟨w.heap.size, 2, none⟩ = some (.int .i64 torn) ∧ w'.cell? ⟨w.heap.size, 3, none⟩ = some (.bool off) ∧ w'.cell? ⟨w.heap.size, 4, none⟩ = some (.int .i64 done) ∧
            (convert 30 9 (.slice A6 rl.length c6)).run Try.prog w' = .ok (.string SR) w' ∧ (convert 30 9 (.slice A7 rl.length c7)).run Try.prog w' = .ok (.string SR) w' ∧ Below wc.heap.size wc w')
          ((refine hK.out _ ?_; simp only [Below.refl, bel_drew, *]))
          (first
            | (go_at_call 19; go_split_ands; refine (check_any A ss.length c left torn off done ss _ (bss_after d16.out.secs (by with_reducible assumption)) hmx).mono ?_; rintro e w17 ⟨rfl, hB17⟩; have hW17 := keepB hB17 (W := wc) (by with_reducible assumption))
            | (go_at_call 20; go_split_ands; refine (rcheck_any A ss.length c left torn off done ss _ (bss_after d16.out.secs (by with_reducible assumption)) hmx).mono ?_; rintro e w18 ⟨rfl, hB18⟩; have hW18 := keepB hB18 (W := wc) (by with_reducible assumption)))
        go_wp2
        go_ret
        exact ⟨rfl, keepB hW18 hBw.out⟩
end Go.Proofs.Ytgeofnemlijbgaa
