/- VaultSaves: the walk. -/
import Derived.Test.YtgeofnemlijbgaaDoorVY4
namespace Go.Proofs.YtgeofnemlijbgaaDoor
open Go.RowKit
set_option linter.unusedVariables false
set_option linter.unusedSimpArgs false

set_option maxRecDepth 100000 in
set_option maxHeartbeats 16000000 in
theorem saves_walk (A : Option Addr) (c : Nat) (d : Dsk) (v : Value) (t : List UInt8) (w : World) (hd : Bss w w.heap.size A d.secs.length d.secs) (h1 : d.secs.length ≤ c) (h2 : c ≤ maxLen) (hv : Bs w w.heap.size v t) (hli : d.left ≤ 9223372036854775807) :
    Calls Tryd.prog 6 #[dvD A c d, v] w fun e w' => e = .returned (.bool true) ∧ Below w.heap.size w w' := by
  obtain ⟨At, ct, rfl, htc, htm, ht⟩ := hv
  have D0 := Lib.hid (DBox.arg hd h1 h2)
  have B0 := Lib.hid (below_one w (.cells #[.slice A d.secs.length c, .int .i64 d.left, .int .i64 d.torn, .bool d.off, .int .i64 d.done] 24))
  have HT := Lib.hid ht
  have HTC := Lib.hid htc
  obtain ⟨q0, q1, q2, q3, q4⟩ := D0.out.cells
  clear hd h1 h2 ht htc htm
  cases hsm : smallB d.secs
  · have HSM := Lib.hid hsm
    clear hsm
    go_enter Tryd.func6, Tryd.ntmps6
    go_wp2_with (first
      | (go_at_call 9; refine (awake_any _).mono ?_; rintro e w1 ⟨rfl, hB1⟩; have D1 := Lib.hid (D0.out.after hB1); have B1 := Lib.hid (keepB hB1 B0.out); clear hB1 q0 q1 q2 q3 q4; obtain ⟨q0, q1, q2, q3, q4⟩ := D1.out.cells)
      | (go_at_call 10; refine (sml_r HSM.out D1.out).mono ?_; rintro e w2 ⟨rfl, hB2⟩))
    go_ret
    exact ⟨rfl, keepB hB2 B1.out⟩
  · by_cases hlen : t.length ≤ 5000
    rotate_left
    · have HSM := Lib.hid hsm
      have hn1 : (5000 : Int) < (t.length : Int) := by omega
      have hn2 : decide ((5000 : Int) < (t.length : Int)) = true := decide_eq_true hn1
      clear hsm hlen
      go_enter Tryd.func6, Tryd.ntmps6
      go_wp2_with (first
        | (go_at_call 9; refine (awake_any _).mono ?_; rintro e w1 ⟨rfl, hB1⟩; have D1 := Lib.hid (D0.out.after hB1); have B1 := Lib.hid (keepB hB1 B0.out); clear hB1 q0 q1 q2 q3 q4; obtain ⟨q0, q1, q2, q3, q4⟩ := D1.out.cells)
        | (go_at_call 10; refine (sml_r HSM.out D1.out).mono ?_; rintro e w2 ⟨rfl, hB2⟩))
      go_ret
      exact ⟨rfl, keepB hB2 B1.out⟩
    · have hSm := small_sm hsm
      have HSM := Lib.hid hsm
      have HSS := Lib.hid hSm
      have HLN := Lib.hid hlen
      have hn1 : ¬ (5000 : Int) < (t.length : Int) := by omega
      have hn2 : decide ((5000 : Int) < (t.length : Int)) = false := decide_eq_false hn1
      have HLI := Lib.hid hli
      obtain ⟨a, e, hsv⟩ : ∃ a e, saveD d t = (a, e) := ⟨_, _, rfl⟩
      obtain ⟨x, tt, nn, g, hrc⟩ : ∃ x tt n g, recD d = (x, tt, n, g) := ⟨_, _, _, _, rfl⟩
      have HSV := Lib.hid hsv
      have HRC := Lib.hid hrc
      have HAS : Hid (Sm a.secs) := Lib.hid (by have := save_sm (t := t) hSm; rw [hsv] at this; exact this)
      have HXS : Hid (Sm x.secs) := Lib.hid (by have := rec_sm hSm; rw [hrc] at this; exact this)
      obtain ⟨S, hS⟩ : ∃ S : ByteArray, S = ⟨tt.toArray⟩ := ⟨_, rfl⟩
      have HS := Lib.hid hS
      have e1 : (S.toList == S.toList) = true := by simp
      have e2 : (e == e) = true := by simp
      have e3 : (nn == nn) = true := by simp
      have e4 : (g == g) = true := by simp
      clear hsm hSm hlen hli hsv hrc hS
      go_enter Tryd.func6, Tryd.ntmps6
      go_upto_region 8 with (first
        | (go_at_call 28; refine (rrec_r HRC.out D5.out HSS.out).mono ?_; rintro e' w6 ⟨A6, c6, vs6, U6, uc6, rfl, hO6, _, _, k6, hB6⟩; have N6 := Lib.hid (DBox.new hO6); have al := below_one w6 (.cells #[.slice A6 x.secs.length c6, .int .i64 x.left, .int .i64 x.torn, .bool x.off, .int .i64 x.done] 24); have D6 := Lib.hid ((D5.out.after hB6).after al); have B6 := Lib.hid (keepB al (keepB hB6 B5.out)); have P6 := Lib.hid ((P5.out.after hB6).after al); have Q6 := Lib.hid ((Q5.out.after hB6).after al); have T6 := Lib.hid (rd_on (rd_on T5.out hB6) al); have R6 := Lib.hid ((N5.out.after hB6).after al); have V6 := Lib.hid (rd_on k6 al); clear k6 hO6 hB6 al q0 q1 q2 q3 q4; dsimp only)
        | (go_at_call 27; refine (rec_r HRC.out D4.out HSS.out).mono ?_; rintro e' w5 ⟨A5, c5, vs5, U5, uc5, rfl, hO5, _, _, k5, hB5⟩; have N5 := Lib.hid (DBox.new hO5); have al := below_one w5 (.cells #[.slice A5 x.secs.length c5, .int .i64 x.left, .int .i64 x.torn, .bool x.off, .int .i64 x.done] 24); have D5 := Lib.hid ((D4.out.after hB5).after al); have B5 := Lib.hid (keepB al (keepB hB5 B4.out)); have P5 := Lib.hid ((P4.out.after hB5).after al); have Q5 := Lib.hid ((N4.out.after hB5).after al); have T5 := Lib.hid (rd_on k5 al); clear k5 hO5 hB5 al q0 q1 q2 q3 q4; obtain ⟨q0, q1, q2, q3, q4⟩ := D5.out.cells; dsimp only)
        | (go_at_call 26; refine (rsave_r HSV.out D3.out HSS.out HLI.out (rd_on HT.out B3.out) HTC.out HLN.out).mono ?_; rintro e' w4 ⟨A4, c4, vs4, rfl, hO4, hB4⟩; have N4 := Lib.hid (DBox.new hO4); have al := below_one w4 (.cells #[.slice A4 a.secs.length c4, .int .i64 a.left, .int .i64 a.torn, .bool a.off, .int .i64 a.done] 24); have D4 := Lib.hid ((D3.out.after hB4).after al); have B4 := Lib.hid (keepB al (keepB hB4 B3.out)); have P4 := Lib.hid ((N3.out.after hB4).after al); clear hO4 hB4 al q0 q1 q2 q3 q4; obtain ⟨q0, q1, q2, q3, q4⟩ := D4.out.cells; dsimp only)
        | (go_at_call 12; refine (save_r HSV.out D2.out HSS.out HLI.out (rd_on HT.out B2.out) HTC.out HLN.out).mono ?_; rintro e' w3 ⟨A3, c3, vs3, rfl, hO3, hB3⟩; have N3 := Lib.hid (DBox.new hO3); have al := below_one w3 (.cells #[.slice A3 a.secs.length c3, .int .i64 a.left, .int .i64 a.torn, .bool a.off, .int .i64 a.done] 24); have D3 := Lib.hid ((D2.out.after hB3).after al); have B3 := Lib.hid (keepB al (keepB hB3 B2.out)); clear hO3 hB3 al q0 q1 q2 q3 q4; obtain ⟨q0, q1, q2, q3, q4⟩ := D3.out.cells; dsimp only)
        | (go_at_call 10; refine (sml_r HSM.out D1.out).mono ?_; rintro e w2 ⟨rfl, hB2⟩; have D2 := Lib.hid (D1.out.after hB2); have B2 := Lib.hid (keepB hB2 B1.out); clear hB2 q0 q1 q2 q3 q4; obtain ⟨q0, q1, q2, q3, q4⟩ := D2.out.cells)
        | (go_at_call 9; refine (awake_any _).mono ?_; rintro e w1 ⟨rfl, hB1⟩; have D1 := Lib.hid (D0.out.after hB1); have B1 := Lib.hid (keepB hB1 B0.out); clear hB1 q0 q1 q2 q3 q4; obtain ⟨q0, q1, q2, q3, q4⟩ := D1.out.cells))
      obtain ⟨pa0, pa1, pa2, pa3, pa4⟩ := P6.out.cells
      obtain ⟨pb0, pb1, pb2, pb3, pb4⟩ := Q6.out.cells
      obtain ⟨pc0, pc1, pc2, pc3, pc4⟩ := R6.out.cells
      obtain ⟨pd0, pd1, pd2, pd3, pd4⟩ := N6.out.cells
      go_wp2_with (first
        | (go_at_call 29; refine (same_r R7.out N7.out HXS.out).mono ?_; rintro e' w8 ⟨rfl, hB8⟩; have B8 := Lib.hid (keepB hB8 B7.out); have kc1 := conv_x HS.out _ _ U5 uc5 (rd_on T7.out hB8); have kc2 := conv_x HS.out _ _ U6 uc6 (rd_on V7.out hB8); clear hB8 pc0 pc1 pc2 pc3 pc4 pd0 pd1 pd2 pd3 pd4)
        | (go_at_call 29; refine (same_r P6.out Q6.out HAS.out).mono ?_; rintro e' w7 ⟨rfl, hB7⟩; have R7 := Lib.hid (R6.out.after hB7); have N7 := Lib.hid (N6.out.after hB7); have B7 := Lib.hid (keepB hB7 B6.out); have T7 := Lib.hid (rd_on T6.out hB7); have V7 := Lib.hid (rd_on V6.out hB7); clear hB7 pa0 pa1 pa2 pa3 pa4 pb0 pb1 pb2 pb3 pb4 pc0 pc1 pc2 pc3 pc4 pd0 pd1 pd2 pd3 pd4; obtain ⟨pc0, pc1, pc2, pc3, pc4⟩ := R7.out.cells; obtain ⟨pd0, pd1, pd2, pd3, pd4⟩ := N7.out.cells))
      go_ret
      exact ⟨rfl, B8.out⟩
end Go.Proofs.YtgeofnemlijbgaaDoor
