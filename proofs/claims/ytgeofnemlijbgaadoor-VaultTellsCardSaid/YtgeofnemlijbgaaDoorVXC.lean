/- VaultTells: the walk. -/
import Derived.Test.YtgeofnemlijbgaaDoorVY4
namespace Go.Proofs.YtgeofnemlijbgaaDoor
open Go.RowKit
set_option linter.unusedVariables false
set_option linter.unusedSimpArgs false

set_option maxRecDepth 100000 in
set_option maxHeartbeats 16000000 in
theorem tells_walk (A : Option Addr) (c : Nat) (d : Dsk) (v : Value) (t : List UInt8) (ns k : Int) (w : World) (hd : Bss w w.heap.size A d.secs.length d.secs) (h1 : d.secs.length ≤ c) (h2 : c ≤ maxLen) (hv : Bs w w.heap.size v t) :
    Calls Tryd.prog 5 #[dvD A c d, v, .int .i64 ns, .int .i64 k] w fun e w' => e = .returned (.bool true) ∧ Below w.heap.size w w' := by
  obtain ⟨At, ct, rfl, htc, htm, ht⟩ := hv
  have D0 := Lib.hid (DBox.arg hd h1 h2)
  have B0 := Lib.hid (below_one w (.cells #[.slice A d.secs.length c, .int .i64 d.left, .int .i64 d.torn, .bool d.off, .int .i64 d.done] 24))
  have HT := Lib.hid ht
  have HTC := Lib.hid htc
  obtain ⟨q0, q1, q2, q3, q4⟩ := D0.out.cells
  clear hd h1 h2 ht htc htm
  cases hsm : smallB d.secs
  · have HSM := Lib.hid hsm
    clear hsm
    go_enter Tryd.func5, Tryd.ntmps5
    go_wp2_with (first
      | (go_at_call 9; refine (awake_any _).mono ?_; rintro e w1 ⟨rfl, hB1⟩; have D1 := Lib.hid (D0.out.after hB1); have B1 := Lib.hid (keepB hB1 B0.out); clear hB1 q0 q1 q2 q3 q4; obtain ⟨q0, q1, q2, q3, q4⟩ := D1.out.cells)
      | (go_at_call 10; refine (sml_r HSM.out D1.out).mono ?_; rintro e w2 ⟨rfl, hB2⟩))
    go_ret
    exact ⟨rfl, keepB hB2 B1.out⟩
  · by_cases hlen : t.length ≤ 5000
    rotate_left
    · have HSM := Lib.hid hsm
      have hn1 : (5000 : Int) < (t.length : Int) := by omega
      have hn2 : decide ((5000 : Int) < (t.length : Int)) = true := decide_eq_true hn1
      clear hsm hlen
      go_enter Tryd.func5, Tryd.ntmps5
      go_wp2_with (first
        | (go_at_call 9; refine (awake_any _).mono ?_; rintro e w1 ⟨rfl, hB1⟩; have D1 := Lib.hid (D0.out.after hB1); have B1 := Lib.hid (keepB hB1 B0.out); clear hB1 q0 q1 q2 q3 q4; obtain ⟨q0, q1, q2, q3, q4⟩ := D1.out.cells)
        | (go_at_call 10; refine (sml_r HSM.out D1.out).mono ?_; rintro e w2 ⟨rfl, hB2⟩))
      go_ret
      exact ⟨rfl, keepB hB2 B1.out⟩
    · have hSm := small_sm hsm
      have HSM := Lib.hid hsm
      have HSS := Lib.hid hSm
      have HLN := Lib.hid hlen
      have hn1 : ¬ (5000 : Int) < (t.length : Int) := by omega
      have hn2 : decide ((5000 : Int) < (t.length : Int)) = false := decide_eq_false hn1
      obtain ⟨ar1, ar2, har⟩ : ∃ a b, areaN ns k = (a, b) := ⟨_, _, rfl⟩
      obtain ⟨rm, hrm⟩ : ∃ r, r = roomN ns := ⟨_, rfl⟩
      obtain ⟨tt, nn, g, hld⟩ : ∃ tt n g, loadD d = (tt, n, g) := ⟨_, _, _, rfl⟩
      obtain ⟨pl, pe, hpl⟩ : ∃ l e, planD d t = (l, e) := ⟨_, _, rfl⟩
      obtain ⟨sl, se, hsl⟩ : ∃ l e, scrubD d = (l, e) := ⟨_, _, rfl⟩
      have HAR := Lib.hid har
      have HRM := Lib.hid hrm
      have HLD := Lib.hid hld
      have HPL := Lib.hid hpl
      have HSL := Lib.hid hsl
      have HPN : Hid (pl.length ≤ 10000) := Lib.hid (by have := plan_len5 (d := d) hlen hSm; rw [hpl] at this; exact this)
      have HSN : Hid (sl.length ≤ 10000) := Lib.hid (by have := scrub_len5 (d := d) hSm; rw [hsl] at this; exact this)
      obtain ⟨S, hS⟩ : ∃ S : ByteArray, S = ⟨tt.toArray⟩ := ⟨_, rfl⟩
      have HS := Lib.hid hS
      have e1 : (S.toList == S.toList) = true := by simp
      have e2 : (ar1 == ar1) = true := by simp
      have e3 : (ar2 == ar2) = true := by simp
      have e4 : (g == g) = true := by simp
      have e5 : (nn == nn) = true := by simp
      have e6 : (pe == pe) = true := by simp
      have e7 : (se == se) = true := by simp
      have e8 : (rm == rm) = true := by simp
      clear hsm hSm hlen har hrm hld hpl hsl hS
      go_enter Tryd.func5, Tryd.ntmps5
      go_upto_region 12 with (first
        | (go_at_call 23; refine (rscrub_r HSL.out D9.out HSS.out).mono ?_; rintro e' w10 ⟨A10, c10, xs10, rfl, hO10, hB10⟩; have D10 := Lib.hid (D9.out.after hB10); have B10 := Lib.hid (keepB hB10 B9.out); have T10 := Lib.hid (rd_on T9.out hB10); have V10 := Lib.hid (rd_on V9.out hB10); have X10 := Lib.hid (X9.out.below hB10); have Y10 := Lib.hid (Y9.out.below hB10); have Z10 := Lib.hid (Z9.out.below hB10); have O10 := Lib.hid hO10; clear hO10 hB10 q0 q1 q2 q3 q4; dsimp only)
        | (go_at_call 14; refine (scrub_r HSL.out D8.out HSS.out).mono ?_; rintro e' w9 ⟨A9, c9, xs9, rfl, hO9, hB9⟩; have D9 := Lib.hid (D8.out.after hB9); have B9 := Lib.hid (keepB hB9 B8.out); have T9 := Lib.hid (rd_on T8.out hB9); have V9 := Lib.hid (rd_on V8.out hB9); have X9 := Lib.hid (X8.out.below hB9); have Y9 := Lib.hid (Y8.out.below hB9); have Z9 := Lib.hid hO9; clear hO9; clear hB9 q0 q1 q2 q3 q4; obtain ⟨q0, q1, q2, q3, q4⟩ := D9.out.cells; dsimp only)
        | (go_at_call 22; refine (rplan_r HPL.out D7.out HSS.out (rd_on HT.out B7.out) HTC.out HLN.out).mono ?_; rintro e' w8 ⟨A8, c8, xs8, rfl, hO8, hB8⟩; have D8 := Lib.hid (D7.out.after hB8); have B8 := Lib.hid (keepB hB8 B7.out); have T8 := Lib.hid (rd_on T7.out hB8); have V8 := Lib.hid (rd_on V7.out hB8); have X8 := Lib.hid (X7.out.below hB8); have Y8 := Lib.hid hO8; clear hO8; clear hB8 q0 q1 q2 q3 q4; obtain ⟨q0, q1, q2, q3, q4⟩ := D8.out.cells; dsimp only)
        | (go_at_call 21; refine (plan_r HPL.out D6.out HSS.out (rd_on HT.out B6.out) HTC.out HLN.out).mono ?_; rintro e' w7 ⟨A7, c7, xs7, rfl, hO7, hB7⟩; have D7 := Lib.hid (D6.out.after hB7); have B7 := Lib.hid (keepB hB7 B6.out); have T7 := Lib.hid (rd_on T6.out hB7); have V7 := Lib.hid (rd_on V6.out hB7); have X7 := Lib.hid hO7; clear hO7; clear hB7 q0 q1 q2 q3 q4; obtain ⟨q0, q1, q2, q3, q4⟩ := D7.out.cells; dsimp only)
        | (go_at_call 20; refine (rload_r HLD.out D5.out HSS.out).mono ?_; rintro e' w6 ⟨A6, c6, rfl, _, _, k6, hB6, _⟩; have D6 := Lib.hid (D5.out.after hB6); have B6 := Lib.hid (keepB hB6 B5.out); have T6 := Lib.hid (rd_on T5.out hB6); have V6 := Lib.hid k6; clear k6; clear hB6 q0 q1 q2 q3 q4; obtain ⟨q0, q1, q2, q3, q4⟩ := D6.out.cells; dsimp only)
        | (go_at_call 18; refine (load_r HLD.out D4.out HSS.out).mono ?_; rintro e' w5 ⟨A5, c5, rfl, _, _, k5, hB5, _⟩; have D5 := Lib.hid (D4.out.after hB5); have B5 := Lib.hid (keepB hB5 B4.out); have T5 := Lib.hid k5; clear k5; clear hB5 q0 q1 q2 q3 q4; obtain ⟨q0, q1, q2, q3, q4⟩ := D5.out.cells; dsimp only)
        | (go_at_call 19; refine (rarea_any _ _ _).mono ?_; rw [HAR.out]; rintro e' w4 ⟨rfl, hB4⟩; have D4 := Lib.hid (D3.out.after hB4); have B4 := Lib.hid (keepB hB4 B3.out); clear hB4 q0 q1 q2 q3 q4; obtain ⟨q0, q1, q2, q3, q4⟩ := D4.out.cells; dsimp only)
        | (go_at_call 15; refine (area_any _ _ _).mono ?_; rw [HAR.out]; rintro e' w3 ⟨rfl, hB3⟩; have D3 := Lib.hid (D2.out.after hB3); have B3 := Lib.hid (keepB hB3 B2.out); clear hB3 q0 q1 q2 q3 q4; obtain ⟨q0, q1, q2, q3, q4⟩ := D3.out.cells; dsimp only)
        | (go_at_call 10; refine (sml_r HSM.out D1.out).mono ?_; rintro e w2 ⟨rfl, hB2⟩; have D2 := Lib.hid (D1.out.after hB2); have B2 := Lib.hid (keepB hB2 B1.out); clear hB2 q0 q1 q2 q3 q4; obtain ⟨q0, q1, q2, q3, q4⟩ := D2.out.cells)
        | (go_at_call 9; refine (awake_any _).mono ?_; rintro e w1 ⟨rfl, hB1⟩; have D1 := Lib.hid (D0.out.after hB1); have B1 := Lib.hid (keepB hB1 B0.out); clear hB1 q0 q1 q2 q3 q4; obtain ⟨q0, q1, q2, q3, q4⟩ := D1.out.cells))
      clear D0 D1 D2 D3 D4 D5 D6 D7 D8 D9 B0 B1 B2 B3 B4 B5 B6 B7 B8 B9 T5 T6 T7 T8 T9 V6 V7 V8 V9 X7 X8 X9 Y8 Y9 Z9
      go_wp2_with (first
        | (go_at_call 25; refine (rroom_any _ _).mono ?_; rw [← HRM.out]; rintro e' w14 ⟨rfl, hB14⟩; have B14 := Lib.hid (keepB hB14 B13.out); have kc1 := conv_x HS.out _ _ A5 c5 (rd_on T13.out hB14); have kc2 := conv_x HS.out _ _ A6 c6 (rd_on V13.out hB14); clear hB14)
        | (go_at_call 17; refine (room_any _ _).mono ?_; rw [← HRM.out]; rintro e' w13 ⟨rfl, hB13⟩; have B13 := Lib.hid (keepB hB13 B12.out); have T13 := Lib.hid (rd_on T12.out hB13); have V13 := Lib.hid (rd_on V12.out hB13); clear hB13)
        | (go_at_call 24; refine (writes_eq A9 A10 c9 c10 sl _ Z11.out.wrs O11.out.wrs HSN.out).mono ?_; rintro e' w12 ⟨rfl, hB12⟩; have B12 := Lib.hid (keepB hB12 B11.out); have T12 := Lib.hid (rd_on T11.out hB12); have V12 := Lib.hid (rd_on V11.out hB12); clear hB12)
        | (go_at_call 24; refine (writes_eq A7 A8 c7 c8 pl _ X10.out.wrs Y10.out.wrs HPN.out).mono ?_; rintro e' w11 ⟨rfl, hB11⟩; have B11 := Lib.hid (keepB hB11 B10.out); have T11 := Lib.hid (rd_on T10.out hB11); have V11 := Lib.hid (rd_on V10.out hB11); have Z11 := Lib.hid (Z10.out.below hB11); have O11 := Lib.hid (O10.out.below hB11); clear hB11))
      go_ret
      exact ⟨rfl, B14.out⟩
end Go.Proofs.YtgeofnemlijbgaaDoor
