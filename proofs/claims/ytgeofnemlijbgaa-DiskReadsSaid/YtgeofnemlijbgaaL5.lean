/- DiskReads: the walk. -/
import Derived.Test.YtgeofnemlijbgaaL1
namespace Go.Proofs.Ytgeofnemlijbgaa
open Go.RowKit
set_option linter.unusedVariables false

theorem conv_one {w : World} {base : Nat} {A : Option Addr} {c : Nat} {l : List UInt8} {S : ByteArray} (h : w.ownsRow base 5 1 (.slice A l.length c) l.length (bvs l)) (hS : S = ⟨l.toArray⟩) : (convert 30 9 (.slice A l.length c)).run Try.prog w = .ok (.string S) w := by
  subst hS
  exact conv_rd (own_rd h) c
theorem keep5 {W w' : World} {A1 A2 A3 A4 A5 : Option Addr} {c1 c2 c3 c4 c5 b1 b2 b3 b4 b5 : Nat} {l1 l2 l3 : List UInt8} {S1 S2 S3 : ByteArray} (h1 : W.ownsRow b1 5 1 (.slice A1 l1.length c1) l1.length (bvs l1)) (h2 : W.ownsRow b2 5 1 (.slice A2 l2.length c2) l2.length (bvs l2)) (h3 : W.ownsRow b3 5 1 (.slice A3 l2.length c3) l2.length (bvs l2)) (h4 : W.ownsRow b4 5 1 (.slice A4 l3.length c4) l3.length (bvs l3)) (h5 : W.ownsRow b5 5 1 (.slice A5 l3.length c5) l3.length (bvs l3)) (e1 : S1 = ⟨l1.toArray⟩) (e2 : S2 = ⟨l2.toArray⟩) (e3 : S3 = ⟨l3.toArray⟩) (h : Below W.heap.size W w') :
    (convert 30 9 (.slice A1 l1.length c1)).run Try.prog w' = .ok (.string S1) w' ∧ (convert 30 9 (.slice A2 l2.length c2)).run Try.prog w' = .ok (.string S2) w' ∧ (convert 30 9 (.slice A3 l2.length c3)).run Try.prog w' = .ok (.string S2) w' ∧ (convert 30 9 (.slice A4 l3.length c4)).run Try.prog w' = .ok (.string S3) w' ∧ (convert 30 9 (.slice A5 l3.length c5)).run Try.prog w' = .ok (.string S3) w' ∧ Below W.heap.size W w' :=
  ⟨conv_one (own_b h h1) e1, conv_one (own_b h h2) e2, conv_one (own_b h h3) e2, conv_one (own_b h h4) e3, conv_one (own_b h h5) e3, h⟩
theorem xor_bits : ∀ n : Fin 256, bits .xor .u8 (n.val : Int) 1 = (((UInt8.ofNat n.val) ^^^ 1).toNat : Int) := by decide +kernel
theorem xor_b (b : UInt8) : bits .xor .u8 (b.toNat : Int) 1 = ((b ^^^ 1).toNat : Int) := by
  have := xor_bits ⟨b.toNat, b.toNat_lt⟩
  rw [this]
  simp
theorem block_x (b : UInt8) (w : World) : Calls Try.prog 25 #[.int .u8 (bits .xor .u8 (b.toNat : Int) 1)] w (BRet w (blockL (b ^^^ 1)) id) := by
  rw [xor_b]
  exact block_any (b ^^^ 1) w

set_option maxRecDepth 100000 in
set_option maxHeartbeats 4000000 in
theorem diskReads_walk (A : Option Addr) (c : Nat) (d : Dsk) (at_ : Int) (b : UInt8) (w : World) (hd : Bss w w.heap.size A d.secs.length d.secs) (h1 : d.secs.length ≤ c) (h2 : c ≤ maxLen) (hat : -9223372036854775808 ≤ at_ ∧ at_ ≤ 9223372036854775807) :
    Calls Try.prog 7 #[dvD A c d, .int .i64 at_, .int .u8 (b.toNat : Int)] w fun e w' => e = .returned (.bool true) ∧ Below w.heap.size w w' := by
  have D0 := Lib.hid (DBox.arg hd h1 h2)
  have HAT := Lib.hid hat
  have hmx := Nat.le_trans h1 h2
  clear hd h1 h2 hat
  cases hsm : smallB d.secs
  · obtain ⟨ss, left, torn, off, done⟩ := d
    dsimp only at hsm D0
    go_enter Try.func7, Try.ntmps7
    go_wp2_with (first
      | (go_at_call 8; refine (awake_any _).mono ?_; rintro e w1 ⟨rfl, hB1⟩; have d1 := Lib.hid (D0.out.after hB1); obtain ⟨qa0, qa1, qa2, qa3, qa4⟩ := d1.out.cells)
      | (go_at_call 9; refine (small_any A ss.length c left torn off done ss _ d1.out.secs).mono ?_; rintro e w2 ⟨rfl, hB2⟩))
    go_ret
    exact ⟨rfl, (keepB hB2 (keepB hB1 (below_one w _)))⟩
  · have hs := Lib.hid (sm_of_small hsm)
    cases hck : checkB d.secs
    · obtain ⟨ss, left, torn, off, done⟩ := d
      dsimp only at hsm D0 hck hmx
      go_enter Try.func7, Try.ntmps7
      go_wp2_with (first
        | (go_at_call 8; refine (awake_any _).mono ?_; rintro e w1 ⟨rfl, hB1⟩; have d1 := Lib.hid (D0.out.after hB1); obtain ⟨qa0, qa1, qa2, qa3, qa4⟩ := d1.out.cells)
        | (go_at_call 9; refine (small_any A ss.length c left torn off done ss _ d1.out.secs).mono ?_; rintro e w2 ⟨rfl, hB2⟩; have d2 := Lib.hid (d1.out.after hB2); obtain ⟨qb0, qb1, qb2, qb3, qb4⟩ := d2.out.cells)
        | (go_at_call 19; refine (check_any A ss.length c left torn off done ss _ d2.out.secs hmx).mono ?_; rintro e w3 ⟨rfl, hB3⟩))
      go_ret
      exact ⟨rfl, keepB hB3 (keepB hB2 (keepB hB1 (below_one w _)))⟩
    · by_cases hr : 0 ≤ at_ ∧ at_ < d.secs.length
      · obtain ⟨hr0, hr1⟩ := hr
        have hl100 := (smallB_out hsm).1
        obtain ⟨dx, ex, hrx⟩ : ∃ dr er, doD (onD d) [(at_, blockL b), (at_, blockL (b ^^^ 1))] = (dr, er) := ⟨_, _, rfl⟩
        have hx2 := reads_two hck hr0 hr1 (blockL_length b) (blockL_length (b ^^^ 1))
        rw [hrx] at hx2
        obtain ⟨hex, hxs⟩ := hx2
        dsimp only at hex hxs
        subst hex
        have hckx : checkB dx.secs = true := by have := doD_check (d := onD d) [(at_, blockL b), (at_, blockL (b ^^^ 1))] hck; rw [hrx] at this; exact this
        obtain ⟨g1, g2, g3, g4, g5⟩ := reads_at hckx hck hxs hr0 hr1
        obtain ⟨lb, eb, hlb⟩ : ∃ lb eb, readD d (at_ + 1) (d.secs.length - at_ - 1) = (lb, eb) := ⟨_, _, rfl⟩
        obtain ⟨la, hla⟩ : ∃ la, la = (d.secs.take at_.toNat).flatten := ⟨_, rfl⟩
        rw [← hla] at g2 g3
        clear hla
        rw [hlb] at g4 g5
        dsimp only at g5
        subst g5
        have hb256 : (b.toNat : Int) < 256 := by have := b.toNat_lt; omega
        have HX := Lib.hid hrx
        have G1 := Lib.hid g1
        have G2 := Lib.hid g2
        have G3 := Lib.hid g3
        have G4 := Lib.hid g4
        have G5 := Lib.hid hlb
        have SX := Lib.hid (smOf hckx)
        clear hrx g1 g2 g3 g4 hlb hxs hckx
        obtain ⟨ss, left, torn, off, done⟩ := d
        obtain ⟨tss, tleft, ttorn, toff, tdone⟩ := dx
        dsimp only at hsm D0 hck hmx hs SX hr1 hl100
        go_enter Try.func7, Try.ntmps7
        go_wp2_with (first
          | (go_at_call 8; refine (awake_any _).mono ?_; rintro e w1 ⟨rfl, hB1⟩; have d1 := Lib.hid (D0.out.after hB1); obtain ⟨qa0, qa1, qa2, qa3, qa4⟩ := d1.out.cells)
          | (go_at_call 9; refine (small_any A ss.length c left torn off done ss _ d1.out.secs).mono ?_; rintro e w2 ⟨rfl, hB2⟩; have d2 := Lib.hid (d1.out.after hB2); obtain ⟨qb0, qb1, qb2, qb3, qb4⟩ := d2.out.cells)
          | (go_at_call 19; refine (check_any A ss.length c left torn off done ss _ d2.out.secs hmx).mono ?_; rintro e w3 ⟨rfl, hB3⟩; have d3 := Lib.hid (d2.out.after hB3); obtain ⟨qc0, qc1, qc2, qc3, qc4⟩ := d3.out.cells)
          | (go_at_call 17; refine (on_any A c ⟨ss, left, torn, off, done⟩ _ d3.out.secs hs.out).mono ?_; rintro e w4 ⟨A4, c4, vs4, rfl, hO4, hB4⟩; have d4 := Lib.hid (d3.out.after hB4))
          | (go_at_call_of 25 (Value.int .u8 (b.toNat : Int)); refine (block_any b _).mono ?_; rintro e w5 ⟨v5, rfl, ho5, hB5⟩; obtain ⟨A5, c5, rfl, r1, r2⟩ := own_form ho5; have d5 := Lib.hid (d4.out.after hB5))
          | (go_at_call 25; have _t := d5; refine (block_x b _).mono ?_; rintro e w6 ⟨v6, rfl, ho6, hB6⟩; obtain ⟨A6, c6, rfl, r3, r4⟩ := own_form ho6; have d6 := Lib.hid ((d5.out.after hB6).alloc (.cells #[.int .i64 at_, .slice A5 (blockL b).length c5, .int .i64 at_, .slice A6 (blockL (b ^^^ 1)).length c6] 43)))
          | (go_at_call 22; refine (do_r (d := onD ⟨ss, left, torn, off, done⟩) HX.out (bss_after (bss_after (bss_after hO4.bss hB5) hB6) (below_one w6 _)) hs.out (wrs_two_m (own_b hB6 ho5) ho6) (by omega) (by show (-1 : Int) ≤ _; omega)).mono ?_; rintro e w8 ⟨A8, c8, vs8, rfl, hO8, hB8⟩; have d8 := Lib.hid ((d6.out.after hB8).alloc (.cells #[.slice A8 tss.length c8, .int .i64 tleft, .int .i64 ttorn, .bool toff, .int .i64 tdone] 24)); have x8 := Lib.hid (DBox.new hO8); obtain ⟨qd0, qd1, qd2, qd3, qd4⟩ := x8.out.cells)
          | (go_at_call 12; have _t := d12; refine (read_r G5.out d12.out.secs d12.out.cap d12.out.cm hs.out (by constructor <;> omega)).mono ?_; rintro e w13 ⟨v13, rfl, ho13, hB13⟩; obtain ⟨A13, c13, rfl, s13, t13⟩ := own_form ho13; have d13 := Lib.hid (d12.out.after hB13); have x13 := Lib.hid (x12.out.after hB13); obtain ⟨qe13, qf13, qg13, qh13, qi13⟩ := x13.out.cells; obtain ⟨qj13, qk13, ql13, qm13, qn13⟩ := d13.out.cells)
          | (go_at_call 12; have _t := d11; refine (read_r G4.out x11.out.secs x11.out.cap x11.out.cm SX.out (by constructor <;> omega)).mono ?_; rintro e w12 ⟨v12, rfl, ho12, hB12⟩; obtain ⟨A12, c12, rfl, s12, t12⟩ := own_form ho12; have d12 := Lib.hid (d11.out.after hB12); have x12 := Lib.hid (x11.out.after hB12); obtain ⟨qe12, qf12, qg12, qh12, qi12⟩ := x12.out.cells; obtain ⟨qj12, qk12, ql12, qm12, qn12⟩ := d12.out.cells)
          | (go_at_call 12; have _t := d10; refine (read_r G3.out d10.out.secs d10.out.cap d10.out.cm hs.out (by constructor <;> omega)).mono ?_; rintro e w11 ⟨v11, rfl, ho11, hB11⟩; obtain ⟨A11, c11, rfl, s11, t11⟩ := own_form ho11; have d11 := Lib.hid (d10.out.after hB11); have x11 := Lib.hid (x10.out.after hB11); obtain ⟨qe11, qf11, qg11, qh11, qi11⟩ := x11.out.cells; obtain ⟨qj11, qk11, ql11, qm11, qn11⟩ := d11.out.cells)
          | (go_at_call 12; have _t := d9; refine (read_r G2.out x9.out.secs x9.out.cap x9.out.cm SX.out (by constructor <;> omega)).mono ?_; rintro e w10 ⟨v10, rfl, ho10, hB10⟩; obtain ⟨A10, c10, rfl, s10, t10⟩ := own_form ho10; have d10 := Lib.hid (d9.out.after hB10); have x10 := Lib.hid (x9.out.after hB10); obtain ⟨qe10, qf10, qg10, qh10, qi10⟩ := x10.out.cells; obtain ⟨qj10, qk10, ql10, qm10, qn10⟩ := d10.out.cells)
          | (go_at_call 12; refine (read_r G1.out x8.out.secs x8.out.cap x8.out.cm SX.out (by constructor <;> omega)).mono ?_; rintro e w9 ⟨v9, rfl, ho9, hB9⟩; obtain ⟨A9, c9, rfl, s9, t9⟩ := own_form ho9; have d9 := Lib.hid (d8.out.after hB9); have x9 := Lib.hid (x8.out.after hB9); obtain ⟨qe9, qf9, qg9, qh9, qi9⟩ := x9.out.cells; obtain ⟨qj9, qk9, ql9, qm9, qn9⟩ := d9.out.cells))
        have o9 := Lib.hid (own_b hB13 (own_b hB12 (own_b hB11 (own_b hB10 ho9))))
        have o10 := Lib.hid (own_b hB13 (own_b hB12 (own_b hB11 ho10)))
        have o11 := Lib.hid (own_b hB13 (own_b hB12 ho11))
        have o12 := Lib.hid (own_b hB13 ho12)
        have o13 := Lib.hid ho13
        have hBw := Lib.hid (keepB hB13 (keepB hB12 (keepB hB11 (keepB hB10 (keepB hB9 (bel_alloc (keepB hB8 (bel_alloc (keepB hB6 (keepB hB5 (keepB hB4 (keepB hB3 (keepB hB2 (keepB hB1 (below_one w (.cells #[.slice A ss.length c, .int .i64 left, .int .i64 torn, .bool off, .int .i64 done] 24))))))))))))))))
        obtain ⟨SB, hSB⟩ : ∃ SR : ByteArray, SR = ⟨(blockL (b ^^^ 1)).toArray⟩ := ⟨_, rfl⟩
        obtain ⟨SA1, hSA⟩ : ∃ SR : ByteArray, SR = ⟨la.toArray⟩ := ⟨_, rfl⟩
        obtain ⟨SL, hSL⟩ : ∃ SR : ByteArray, SR = ⟨lb.toArray⟩ := ⟨_, rfl⟩
        have HB := Lib.hid hSB
        have HA := Lib.hid hSA
        have HL := Lib.hid hSL
        have hK := Lib.hid (fun w' => keep5 (w' := w') o9.out o10.out o11.out o12.out o13.out HB.out HA.out HL.out)
        clear hSB hSA hSL
        clear D0 d1 d2 d3 d4 d5 d6 d8 x8 d9 x9 d10 x10 d11 x11 d12 x12 d13 x13 hB1 hB2 hB3 hB4 hB5 hB6 hB8 hB9 hB10 hB11 hB12 hB13 ho5 ho6 ho9 ho10 ho11 ho12 ho13 hO4 hO8 HX G1 G2 G3 G4 G5 qa0 qa1 qa2 qa3 qa4 qb0 qb1 qb2 qb3 qb4 qc0 qc1 qc2 qc3 qc4 qd0 qd1 qd2 qd3 qd4 o9 o10 o11 o12 o13
        clear qe9 qf9 qg9 qh9 qi9 qj9 qk9 ql9 qm9 qn9 qe10 qf10 qg10 qh10 qi10 qj10 qk10 ql10 qm10 qn10 qe11 qf11 qg11 qh11 qi11 qj11 qk11 ql11 qm11 qn11 qe12 qf12 qg12 qh12 qi12 qj12 qk12 ql12 qm12 qn12 qe13 qf13 qg13 qh13 qi13 qj13 qk13 ql13 qm13 qn13
        go_region_held_law (fun w' => (convert 30 9 (.slice A9 (blockL (b ^^^ 1)).length c9)).run Try.prog w' = .ok (.string SB) w' ∧ (convert 30 9 (.slice A10 la.length c10)).run Try.prog w' = .ok (.string SA1) w' ∧ (convert 30 9 (.slice A11 la.length c11)).run Try.prog w' = .ok (.string SA1) w' ∧ (convert 30 9 (.slice A12 lb.length c12)).run Try.prog w' = .ok (.string SL) w' ∧ (convert 30 9 (.slice A13 lb.length c13)).run Try.prog w' = .ok (.string SL) w' ∧ Below w13.heap.size w13 w')
          ((refine hK.out _ ?_; simp only [Below.refl, bel_drew, *]))
          (first
            | (go_at_call 25; go_split_ands; refine (block_x b _).mono ?_; rintro e w14 ⟨v14, rfl, ho14, hB14⟩; obtain ⟨A14, c14, rfl, r13, r14⟩ := own_form ho14; have hW14 := keepB hB14 (W := w13) (by with_reducible assumption); have cv14 := conv_one ho14 HB.out))
        go_wp2
        go_ret
        exact ⟨rfl, keepB hW14 hBw.out⟩
      · obtain ⟨ss, left, torn, off, done⟩ := d
        dsimp only at hsm D0 hck hmx hr
        by_cases h0 : 0 ≤ at_
        · have h0' : ¬ at_ < 0 := by omega
          have h1' : (ss.length : Int) ≤ at_ := by omega
          go_enter Try.func7, Try.ntmps7
          go_wp2_with (first
            | (go_at_call 8; refine (awake_any _).mono ?_; rintro e w1 ⟨rfl, hB1⟩; have d1 := Lib.hid (D0.out.after hB1); obtain ⟨qa0, qa1, qa2, qa3, qa4⟩ := d1.out.cells)
            | (go_at_call 9; refine (small_any A ss.length c left torn off done ss _ d1.out.secs).mono ?_; rintro e w2 ⟨rfl, hB2⟩; have d2 := Lib.hid (d1.out.after hB2); obtain ⟨qb0, qb1, qb2, qb3, qb4⟩ := d2.out.cells)
            | (go_at_call 19; refine (check_any A ss.length c left torn off done ss _ d2.out.secs hmx).mono ?_; rintro e w3 ⟨rfl, hB3⟩; have d3 := Lib.hid (d2.out.after hB3); obtain ⟨qc0, qc1, qc2, qc3, qc4⟩ := d3.out.cells))
          go_ret
          exact ⟨rfl, keepB hB3 (keepB hB2 (keepB hB1 (below_one w _)))⟩
        · have h0' : at_ < 0 := by omega
          go_enter Try.func7, Try.ntmps7
          go_wp2_with (first
            | (go_at_call 8; refine (awake_any _).mono ?_; rintro e w1 ⟨rfl, hB1⟩; have d1 := Lib.hid (D0.out.after hB1); obtain ⟨qa0, qa1, qa2, qa3, qa4⟩ := d1.out.cells)
            | (go_at_call 9; refine (small_any A ss.length c left torn off done ss _ d1.out.secs).mono ?_; rintro e w2 ⟨rfl, hB2⟩; have d2 := Lib.hid (d1.out.after hB2); obtain ⟨qb0, qb1, qb2, qb3, qb4⟩ := d2.out.cells)
            | (go_at_call 19; refine (check_any A ss.length c left torn off done ss _ d2.out.secs hmx).mono ?_; rintro e w3 ⟨rfl, hB3⟩; have d3 := Lib.hid (d2.out.after hB3); obtain ⟨qc0, qc1, qc2, qc3, qc4⟩ := d3.out.cells))
          go_ret
          exact ⟨rfl, keepB hB3 (keepB hB2 (keepB hB1 (below_one w _)))⟩
end Go.Proofs.Ytgeofnemlijbgaa
