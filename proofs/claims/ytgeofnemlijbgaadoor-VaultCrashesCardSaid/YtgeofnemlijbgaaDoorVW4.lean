/- VaultCrashes: the walk. -/
import Derived.Test.YtgeofnemlijbgaaDoorVW3
namespace Go.Proofs.YtgeofnemlijbgaaDoor
open Go.RowKit
set_option linter.unusedVariables false
set_option linter.unusedSimpArgs false

set_option maxRecDepth 100000 in
set_option maxHeartbeats 16000000 in
theorem crash_not_small (A : Option Addr) (c : Nat) (d : Dsk) (At : Option Addr) (ct : Nat) (t : List UInt8) (b1 b2 : UInt8) (tn mo : Int) (w : World) (hd : Bss w w.heap.size A d.secs.length d.secs) (h1 : d.secs.length ≤ c) (h2 : c ≤ maxLen) (htc : t.length ≤ ct) (ht : Rd w w.heap.size At t.length (bvs t)) (hsm : smallB d.secs = false) :
    Calls Tryd.prog 8 #[dvD A c d, .slice At t.length ct, .int .u8 (b1.toNat : Int), .int .i64 tn, .int .u8 (b2.toNat : Int), .int .i64 mo] w fun e w' => e = .returned (.bool true) ∧ Below w.heap.size w w' := by
  have D0 := Lib.hid (DBox.arg hd h1 h2)
  have B0 := Lib.hid (below_one w (.cells #[.slice A d.secs.length c, .int .i64 d.left, .int .i64 d.torn, .bool d.off, .int .i64 d.done] 24))
  have HT := Lib.hid ht
  have HTC := Lib.hid htc
  obtain ⟨q0, q1, q2, q3, q4⟩ := D0.out.cells
  clear hd h1 h2 ht htc
  have HSM := Lib.hid hsm
  clear hsm
  go_enter Tryd.func8, Tryd.ntmps8
  go_wp2_with (first
    | (go_at_call 9; refine (awake_any _).mono ?_; rintro e w1 ⟨rfl, hB1⟩; have D1 := Lib.hid (D0.out.after hB1); have B1 := Lib.hid (keepB hB1 B0.out); clear hB1 q0 q1 q2 q3 q4; obtain ⟨q0, q1, q2, q3, q4⟩ := D1.out.cells)
    | (go_at_call 10; refine (sml_r HSM.out D1.out).mono ?_; rintro e w2 ⟨rfl, hB2⟩))
  go_ret
  exact ⟨rfl, keepB hB2 B1.out⟩
set_option maxRecDepth 100000 in
set_option maxHeartbeats 16000000 in
theorem crash_long (A : Option Addr) (c : Nat) (d : Dsk) (At : Option Addr) (ct : Nat) (t : List UInt8) (b1 b2 : UInt8) (tn mo : Int) (w : World) (hd : Bss w w.heap.size A d.secs.length d.secs) (h1 : d.secs.length ≤ c) (h2 : c ≤ maxLen) (htc : t.length ≤ ct) (ht : Rd w w.heap.size At t.length (bvs t)) (hsm : smallB d.secs = true) (hlen : ¬ t.length ≤ 5000) :
    Calls Tryd.prog 8 #[dvD A c d, .slice At t.length ct, .int .u8 (b1.toNat : Int), .int .i64 tn, .int .u8 (b2.toNat : Int), .int .i64 mo] w fun e w' => e = .returned (.bool true) ∧ Below w.heap.size w w' := by
  have D0 := Lib.hid (DBox.arg hd h1 h2)
  have B0 := Lib.hid (below_one w (.cells #[.slice A d.secs.length c, .int .i64 d.left, .int .i64 d.torn, .bool d.off, .int .i64 d.done] 24))
  have HT := Lib.hid ht
  have HTC := Lib.hid htc
  obtain ⟨q0, q1, q2, q3, q4⟩ := D0.out.cells
  clear hd h1 h2 ht htc
  have HSM := Lib.hid hsm
  have hn1 : (5000 : Int) < (t.length : Int) := by omega
  have hn2 : decide ((5000 : Int) < (t.length : Int)) = true := decide_eq_true hn1
  clear hsm hlen
  go_enter Tryd.func8, Tryd.ntmps8
  go_wp2_with (first
    | (go_at_call 9; refine (awake_any _).mono ?_; rintro e w1 ⟨rfl, hB1⟩; have D1 := Lib.hid (D0.out.after hB1); have B1 := Lib.hid (keepB hB1 B0.out); clear hB1 q0 q1 q2 q3 q4; obtain ⟨q0, q1, q2, q3, q4⟩ := D1.out.cells)
    | (go_at_call 10; refine (sml_r HSM.out D1.out).mono ?_; rintro e w2 ⟨rfl, hB2⟩))
  go_ret
  exact ⟨rfl, keepB hB2 B1.out⟩
set_option maxRecDepth 100000 in
set_option maxHeartbeats 16000000 in
theorem crash_no_disk (A : Option Addr) (c : Nat) (d : Dsk) (At : Option Addr) (ct : Nat) (t : List UInt8) (b1 b2 : UInt8) (tn mo : Int) (w : World) (hd : Bss w w.heap.size A d.secs.length d.secs) (h1 : d.secs.length ≤ c) (h2 : c ≤ maxLen) (htc : t.length ≤ ct) (ht : Rd w w.heap.size At t.length (bvs t)) (hsm : smallB d.secs = true) (hlen : t.length ≤ 5000) (hck : checkB d.secs = false) :
    Calls Tryd.prog 8 #[dvD A c d, .slice At t.length ct, .int .u8 (b1.toNat : Int), .int .i64 tn, .int .u8 (b2.toNat : Int), .int .i64 mo] w fun e w' => e = .returned (.bool true) ∧ Below w.heap.size w w' := by
  have D0 := Lib.hid (DBox.arg hd h1 h2)
  have B0 := Lib.hid (below_one w (.cells #[.slice A d.secs.length c, .int .i64 d.left, .int .i64 d.torn, .bool d.off, .int .i64 d.done] 24))
  have HT := Lib.hid ht
  have HTC := Lib.hid htc
  obtain ⟨q0, q1, q2, q3, q4⟩ := D0.out.cells
  clear hd h1 h2 ht htc
  have HSM := Lib.hid hsm
  have HSS := Lib.hid (small_sm hsm)
  have HLN := Lib.hid hlen
  have hn1 : ¬ (5000 : Int) < (t.length : Int) := by omega
  have hn2 : decide ((5000 : Int) < (t.length : Int)) = false := decide_eq_false hn1
  have HCK := Lib.hid hck
  clear hsm hlen hck
  go_enter Tryd.func8, Tryd.ntmps8
  go_wp2_with (first
    | (go_at_call 9; refine (awake_any _).mono ?_; rintro e w1 ⟨rfl, hB1⟩; have D1 := Lib.hid (D0.out.after hB1); have B1 := Lib.hid (keepB hB1 B0.out); clear hB1 q0 q1 q2 q3 q4; obtain ⟨q0, q1, q2, q3, q4⟩ := D1.out.cells)
    | (go_at_call 10; refine (sml_r HSM.out D1.out).mono ?_; rintro e w2 ⟨rfl, hB2⟩; have D2 := Lib.hid (D1.out.after hB2); have B2 := Lib.hid (keepB hB2 B1.out); clear hB2 q0 q1 q2 q3 q4; obtain ⟨q0, q1, q2, q3, q4⟩ := D2.out.cells)
    | (go_at_call 11; refine (chk_r HCK.out D2.out HSS.out).mono ?_; rintro e w3 ⟨rfl, hB3⟩))
  go_ret
  exact ⟨rfl, keepB hB3 B2.out⟩
set_option maxRecDepth 100000 in
set_option maxHeartbeats 16000000 in
theorem crash_full (A : Option Addr) (c : Nat) (d : Dsk) (At : Option Addr) (ct : Nat) (t : List UInt8) (b1 b2 : UInt8) (tn mo : Int) (w : World) (hd : Bss w w.heap.size A d.secs.length d.secs) (h1 : d.secs.length ≤ c) (h2 : c ≤ maxLen) (htc : t.length ≤ ct) (ht : Rd w w.heap.size At t.length (bvs t)) (hsm : smallB d.secs = true) (hlen : t.length ≤ 5000) (hck : checkB d.secs = true) (L : Int) (hL : L = (b1.toNat : Int) % 100) (x : Dsk) (hx : x = onD d) (hxck : checkB x.secs = true) (was : List UInt8) (n e : Int) (hld : loadD x = (was, n, e)) (a : Dsk) (g : Int) (hsv : saveD (limD x L tn) t = (a, g)) (hpl : planD x t = ([], 180)) (hg : g = 180) :
    Calls Tryd.prog 8 #[dvD A c d, .slice At t.length ct, .int .u8 (b1.toNat : Int), .int .i64 tn, .int .u8 (b2.toNat : Int), .int .i64 mo] w fun e w' => e = .returned (.bool true) ∧ Below w.heap.size w w' := by
  have D0 := Lib.hid (DBox.arg hd h1 h2)
  have B0 := Lib.hid (below_one w (.cells #[.slice A d.secs.length c, .int .i64 d.left, .int .i64 d.torn, .bool d.off, .int .i64 d.done] 24))
  have HT := Lib.hid ht
  have HTC := Lib.hid htc
  obtain ⟨q0, q1, q2, q3, q4⟩ := D0.out.cells
  clear hd h1 h2 ht htc
  obtain ⟨z, hz⟩ : ∃ z : Int, z = (b1.toNat : Int) := ⟨_, rfl⟩
  have hb := UInt8.toNat_lt b1
  rw [← hz] at hL ⊢
  have e1 : z.tmod 100 = L := by rw [hL, Int.tmod_eq_emod_of_nonneg (by omega)]
  have e2 : z % 100 = L := hL.symm
  have e3 : IntKind.i64.wrap z = z := IntWalk.i64_in _ (by omega)
  have e4 : IntKind.i64.wrap L = L := IntWalk.i64_in _ (by omega)
  have l0 : 0 ≤ L ∧ L ≤ 99 := by omega
  have hz0 : 0 ≤ z := by omega
  clear hL hz hb
  have HSM := Lib.hid hsm
  have HSS := Lib.hid (small_sm hsm)
  have HLN := Lib.hid hlen
  have hn1 : ¬ (5000 : Int) < (t.length : Int) := by omega
  have hn2 : decide ((5000 : Int) < (t.length : Int)) = false := decide_eq_false hn1
  have HCK := Lib.hid hck
  clear hsm hlen hck
  have HXS := Lib.hid (show Sm x.secs from sm_check hxck)
  have HX := Lib.hid hx.symm
  have HLD := Lib.hid hld
  have HPL := Lib.hid hpl
  obtain ⟨dl, hdl⟩ : ∃ y, y = limD x L tn := ⟨_, rfl⟩
  have HLM := Lib.hid hdl.symm
  have HLS : Hid (Sm dl.secs) := Lib.hid (by rw [hdl]; exact sm_check hxck)
  have HLL : Hid (dl.left ≤ 9223372036854775807) := Lib.hid (by rw [hdl]; show L ≤ _; omega)
  have HSV : Hid (saveD dl t = (a, g)) := Lib.hid (by rw [hdl]; exact hsv)
  clear hld hpl hsv hdl
  subst hg
  clear hx hxck
  go_enter Tryd.func8, Tryd.ntmps8
  go_wp2_with (first
    | (go_at_call 12; refine (save_w HSV.out O7.out HLS.out HLL.out (rd_on HT.out B7.out) HTC.out HLN.out).mono ?_; rintro e w8 ⟨A8, c8, vs8, rfl, hO8, hB8⟩; have N8 := Lib.hid (DBox.new hO8); have al := below_one w8 (.cells #[.slice A8 a.secs.length c8, .int .i64 a.left, .int .i64 a.torn, .bool a.off, .int .i64 a.done] 24); have B8 := Lib.hid (keepB al (keepB hB8 B7.out)); have R8 := Lib.hid (rd_on (rd_on R7.out hB8) al); clear hO8 hB8 al; obtain ⟨q0, q1, q2, q3, q4⟩ := N8.out.cells; dsimp only)
    | (go_at_call 30; refine (lim_r HLM.out D6.out HXS.out).mono ?_; rintro e w7 ⟨A7, c7, vs7, rfl, hO7, hB7⟩; have O7 := Lib.hid hO7; have B7 := Lib.hid (keepB hB7 B6.out); have R7 := Lib.hid (rd_on R6.out hB7); clear hO7 hB7 q0 q1 q2 q3 q4; dsimp only [id])
    | (go_at_call 21; refine (plan_r HPL.out D5.out HXS.out (rd_on HT.out B5.out) HTC.out HLN.out).mono ?_; rintro e w6 ⟨A6, c6, xs6, rfl, hO6, hB6⟩; have D6 := Lib.hid (D5.out.after hB6); have B6 := Lib.hid (keepB hB6 B5.out); have R6 := Lib.hid (rd_on R5.out hB6); clear hO6 hB6 q0 q1 q2 q3 q4; obtain ⟨q0, q1, q2, q3, q4⟩ := D6.out.cells; dsimp only)
    | (go_at_call 18; refine (load_r HLD.out D4.out HXS.out).mono ?_; rintro e w5 ⟨A5, c5, rfl, _, _, k5, hB5, _⟩; have D5 := Lib.hid (D4.out.after hB5); have B5 := Lib.hid (keepB hB5 B4.out); have R5 := Lib.hid k5; clear k5 hB5 z1 z2 q0 q1 q2 q3 q4; obtain ⟨q0, q1, q2, q3, q4⟩ := D5.out.cells; dsimp only)
    | (go_at_call 13; refine (on_r HX.out D3.out HSS.out).mono ?_; rintro e w4 ⟨A4, c4, vs4, rfl, hO4, hB4⟩; obtain ⟨E4, D4'⟩ := beh_close (keepB hB4 B3.out) (D3.out.blk.below hB4 D3.out.blk.lt) (Nat.le_refl _) hO4; have D4 := Lib.hid D4'; have B4 := Lib.hid E4; have z1 := (D3.out.blk.below hB4 D3.out.blk.lt).cell; have z2 := (D3.out.blk.below hB4 D3.out.blk.lt).frozen; clear hO4 hB4 E4 D4' q0 q1 q2 q3 q4; obtain ⟨q0, q1, q2, q3, q4⟩ := D4.out.cells; dsimp only [id])
    | (go_at_call 11; refine (chk_r HCK.out D2.out HSS.out).mono ?_; rintro e w3 ⟨rfl, hB3⟩; have D3 := Lib.hid (D2.out.after hB3); have B3 := Lib.hid (keepB hB3 B2.out); clear hB3 q0 q1 q2 q3 q4; obtain ⟨q0, q1, q2, q3, q4⟩ := D3.out.cells)
    | (go_at_call 10; refine (sml_r HSM.out D1.out).mono ?_; rintro e w2 ⟨rfl, hB2⟩; have D2 := Lib.hid (D1.out.after hB2); have B2 := Lib.hid (keepB hB2 B1.out); clear hB2 q0 q1 q2 q3 q4; obtain ⟨q0, q1, q2, q3, q4⟩ := D2.out.cells)
    | (go_at_call 9; refine (awake_any _).mono ?_; rintro e w1 ⟨rfl, hB1⟩; have D1 := Lib.hid (D0.out.after hB1); have B1 := Lib.hid (keepB hB1 B0.out); clear hB1 q0 q1 q2 q3 q4; obtain ⟨q0, q1, q2, q3, q4⟩ := D1.out.cells))
  go_ret
  exact ⟨rfl, B8.out⟩
set_option maxRecDepth 100000 in
set_option maxHeartbeats 16000000 in
theorem crash_done (A : Option Addr) (c : Nat) (d : Dsk) (At : Option Addr) (ct : Nat) (t : List UInt8) (b1 b2 : UInt8) (tn mo : Int) (w : World) (hd : Bss w w.heap.size A d.secs.length d.secs) (h1 : d.secs.length ≤ c) (h2 : c ≤ maxLen) (htc : t.length ≤ ct) (ht : Rd w w.heap.size At t.length (bvs t)) (hsm : smallB d.secs = true) (hlen : t.length ≤ 5000) (hck : checkB d.secs = true) (L : Int) (hL : L = (b1.toNat : Int) % 100) (x : Dsk) (hx : x = onD d) (hxck : checkB x.secs = true) (was : List UInt8) (n e : Int) (hld : loadD x = (was, n, e)) (a : Dsk) (g : Int) (hsv : saveD (limD x L tn) t = (a, g)) (hack : checkB a.secs = true) (pl : List Wr) (hpl : planD x t = (pl, 0)) (x1 : Dsk) (tt : List UInt8) (k h : Int) (hrc : recD a = (x1, tt, k, h)) (hg : g = 0) (hh : h = 0) (htt : tt = t) (hpn : (pl.length : Int) ≤ L) :
    Calls Tryd.prog 8 #[dvD A c d, .slice At t.length ct, .int .u8 (b1.toNat : Int), .int .i64 tn, .int .u8 (b2.toNat : Int), .int .i64 mo] w fun e w' => e = .returned (.bool true) ∧ Below w.heap.size w w' := by
  have D0 := Lib.hid (DBox.arg hd h1 h2)
  have B0 := Lib.hid (below_one w (.cells #[.slice A d.secs.length c, .int .i64 d.left, .int .i64 d.torn, .bool d.off, .int .i64 d.done] 24))
  have HT := Lib.hid ht
  have HTC := Lib.hid htc
  obtain ⟨q0, q1, q2, q3, q4⟩ := D0.out.cells
  clear hd h1 h2 ht htc
  obtain ⟨z, hz⟩ : ∃ z : Int, z = (b1.toNat : Int) := ⟨_, rfl⟩
  have hb := UInt8.toNat_lt b1
  rw [← hz] at hL ⊢
  have e1 : z.tmod 100 = L := by rw [hL, Int.tmod_eq_emod_of_nonneg (by omega)]
  have e2 : z % 100 = L := hL.symm
  have e3 : IntKind.i64.wrap z = z := IntWalk.i64_in _ (by omega)
  have e4 : IntKind.i64.wrap L = L := IntWalk.i64_in _ (by omega)
  have l0 : 0 ≤ L ∧ L ≤ 99 := by omega
  have hz0 : 0 ≤ z := by omega
  clear hL hz hb
  have HSM := Lib.hid hsm
  have HSS := Lib.hid (small_sm hsm)
  have HLN := Lib.hid hlen
  have hn1 : ¬ (5000 : Int) < (t.length : Int) := by omega
  have hn2 : decide ((5000 : Int) < (t.length : Int)) = false := decide_eq_false hn1
  have HCK := Lib.hid hck
  clear hsm hlen hck
  have HXS := Lib.hid (show Sm x.secs from sm_check hxck)
  have HX := Lib.hid hx.symm
  have HLD := Lib.hid hld
  have HPL := Lib.hid hpl
  obtain ⟨dl, hdl⟩ : ∃ y, y = limD x L tn := ⟨_, rfl⟩
  have HLM := Lib.hid hdl.symm
  have HLS : Hid (Sm dl.secs) := Lib.hid (by rw [hdl]; exact sm_check hxck)
  have HLL : Hid (dl.left ≤ 9223372036854775807) := Lib.hid (by rw [hdl]; show L ≤ _; omega)
  have HSV : Hid (saveD dl t = (a, g)) := Lib.hid (by rw [hdl]; exact hsv)
  clear hld hpl hsv hdl
  have HRC := Lib.hid hrc
  have HAS := Lib.hid (sm_check hack)
  obtain ⟨S, hS⟩ : ∃ S : ByteArray, S = ⟨t.toArray⟩ := ⟨_, rfl⟩
  obtain ⟨Sw, hSw⟩ : ∃ S : ByteArray, S = ⟨was.toArray⟩ := ⟨_, rfl⟩
  obtain ⟨St, hSt⟩ : ∃ S : ByteArray, S = ⟨tt.toArray⟩ := ⟨_, rfl⟩
  have HS := Lib.hid hS
  have HSw := Lib.hid hSw
  have HSt := Lib.hid hSt
  clear hrc hx hxck
  obtain rfl : St = S := by rw [hSt, hS, htt]
  subst hg hh
  have hpn2 : decide ((pl.length : Int) ≤ L) = true := decide_eq_true hpn
  clear hS hSw hSt htt hack
  go_enter Tryd.func8, Tryd.ntmps8
  go_wp2_with (first
    | (go_at_call 27; refine (rec_r HRC.out N8.out HAS.out).mono ?_; rintro e w10 ⟨A10, c10, vs10, A11, c11, rfl, hO10, _, _, k10, hB10⟩; have M10 := Lib.hid (DBox.new hO10); have al := below_one w10 (.cells #[.slice A10 x1.secs.length c10, .int .i64 x1.left, .int .i64 x1.torn, .bool x1.off, .int .i64 x1.done] 24); have N10 := Lib.hid ((N8.out.after hB10).after al); have B10 := Lib.hid (keepB al (keepB hB10 B8.out)); have R10 := Lib.hid (rd_on (rd_on R8.out hB10) al); have U10 := Lib.hid (rd_on k10 al); clear k10 hO10 hB10 al q0 q1 q2 q3 q4; obtain ⟨q0, q1, q2, q3, q4⟩ := N10.out.cells; have kc1 := conv_s HS.out _ _ At ct (rd_on HT.out B10.out); have kc2 := conv_s HSt.out _ _ A11 c11 U10.out; have kc3 := conv_s HSw.out _ _ A5 c5 R10.out; dsimp only)
    | (go_at_call 12; refine (save_w HSV.out O7.out HLS.out HLL.out (rd_on HT.out B7.out) HTC.out HLN.out).mono ?_; rintro e w8 ⟨A8, c8, vs8, rfl, hO8, hB8⟩; have N8 := Lib.hid (DBox.new hO8); have al := below_one w8 (.cells #[.slice A8 a.secs.length c8, .int .i64 a.left, .int .i64 a.torn, .bool a.off, .int .i64 a.done] 24); have B8 := Lib.hid (keepB al (keepB hB8 B7.out)); have R8 := Lib.hid (rd_on (rd_on R7.out hB8) al); clear hO8 hB8 al; obtain ⟨q0, q1, q2, q3, q4⟩ := N8.out.cells; dsimp only)
    | (go_at_call 30; refine (lim_r HLM.out D6.out HXS.out).mono ?_; rintro e w7 ⟨A7, c7, vs7, rfl, hO7, hB7⟩; have O7 := Lib.hid hO7; have B7 := Lib.hid (keepB hB7 B6.out); have R7 := Lib.hid (rd_on R6.out hB7); clear hO7 hB7 q0 q1 q2 q3 q4; dsimp only [id])
    | (go_at_call 21; refine (plan_r HPL.out D5.out HXS.out (rd_on HT.out B5.out) HTC.out HLN.out).mono ?_; rintro e w6 ⟨A6, c6, xs6, rfl, hO6, hB6⟩; have D6 := Lib.hid (D5.out.after hB6); have B6 := Lib.hid (keepB hB6 B5.out); have R6 := Lib.hid (rd_on R5.out hB6); clear hO6 hB6 q0 q1 q2 q3 q4; obtain ⟨q0, q1, q2, q3, q4⟩ := D6.out.cells; dsimp only)
    | (go_at_call 18; refine (load_r HLD.out D4.out HXS.out).mono ?_; rintro e w5 ⟨A5, c5, rfl, _, _, k5, hB5, _⟩; have D5 := Lib.hid (D4.out.after hB5); have B5 := Lib.hid (keepB hB5 B4.out); have R5 := Lib.hid k5; clear k5 hB5 z1 z2 q0 q1 q2 q3 q4; obtain ⟨q0, q1, q2, q3, q4⟩ := D5.out.cells; dsimp only)
    | (go_at_call 13; refine (on_r HX.out D3.out HSS.out).mono ?_; rintro e w4 ⟨A4, c4, vs4, rfl, hO4, hB4⟩; obtain ⟨E4, D4'⟩ := beh_close (keepB hB4 B3.out) (D3.out.blk.below hB4 D3.out.blk.lt) (Nat.le_refl _) hO4; have D4 := Lib.hid D4'; have B4 := Lib.hid E4; have z1 := (D3.out.blk.below hB4 D3.out.blk.lt).cell; have z2 := (D3.out.blk.below hB4 D3.out.blk.lt).frozen; clear hO4 hB4 E4 D4' q0 q1 q2 q3 q4; obtain ⟨q0, q1, q2, q3, q4⟩ := D4.out.cells; dsimp only [id])
    | (go_at_call 11; refine (chk_r HCK.out D2.out HSS.out).mono ?_; rintro e w3 ⟨rfl, hB3⟩; have D3 := Lib.hid (D2.out.after hB3); have B3 := Lib.hid (keepB hB3 B2.out); clear hB3 q0 q1 q2 q3 q4; obtain ⟨q0, q1, q2, q3, q4⟩ := D3.out.cells)
    | (go_at_call 10; refine (sml_r HSM.out D1.out).mono ?_; rintro e w2 ⟨rfl, hB2⟩; have D2 := Lib.hid (D1.out.after hB2); have B2 := Lib.hid (keepB hB2 B1.out); clear hB2 q0 q1 q2 q3 q4; obtain ⟨q0, q1, q2, q3, q4⟩ := D2.out.cells)
    | (go_at_call 9; refine (awake_any _).mono ?_; rintro e w1 ⟨rfl, hB1⟩; have D1 := Lib.hid (D0.out.after hB1); have B1 := Lib.hid (keepB hB1 B0.out); clear hB1 q0 q1 q2 q3 q4; obtain ⟨q0, q1, q2, q3, q4⟩ := D1.out.cells))
  go_ret
  exact ⟨rfl, B10.out⟩
set_option maxRecDepth 100000 in
set_option maxHeartbeats 16000000 in
theorem crash_none (A : Option Addr) (c : Nat) (d : Dsk) (At : Option Addr) (ct : Nat) (t : List UInt8) (b1 b2 : UInt8) (tn mo : Int) (w : World) (hd : Bss w w.heap.size A d.secs.length d.secs) (h1 : d.secs.length ≤ c) (h2 : c ≤ maxLen) (htc : t.length ≤ ct) (ht : Rd w w.heap.size At t.length (bvs t)) (hsm : smallB d.secs = true) (hlen : t.length ≤ 5000) (hck : checkB d.secs = true) (L : Int) (hL : L = (b1.toNat : Int) % 100) (x : Dsk) (hx : x = onD d) (hxck : checkB x.secs = true) (was : List UInt8) (n e : Int) (hld : loadD x = (was, n, e)) (a : Dsk) (g : Int) (hsv : saveD (limD x L tn) t = (a, g)) (hack : checkB a.secs = true) (pl : List Wr) (hpl : planD x t = (pl, 0)) (x1 : Dsk) (tt : List UInt8) (k h : Int) (hrc : recD a = (x1, tt, k, h)) (hg : g = 170) (hh : h = 181) (he : e = 181) :
    Calls Tryd.prog 8 #[dvD A c d, .slice At t.length ct, .int .u8 (b1.toNat : Int), .int .i64 tn, .int .u8 (b2.toNat : Int), .int .i64 mo] w fun e w' => e = .returned (.bool true) ∧ Below w.heap.size w w' := by
  have D0 := Lib.hid (DBox.arg hd h1 h2)
  have B0 := Lib.hid (below_one w (.cells #[.slice A d.secs.length c, .int .i64 d.left, .int .i64 d.torn, .bool d.off, .int .i64 d.done] 24))
  have HT := Lib.hid ht
  have HTC := Lib.hid htc
  obtain ⟨q0, q1, q2, q3, q4⟩ := D0.out.cells
  clear hd h1 h2 ht htc
  obtain ⟨z, hz⟩ : ∃ z : Int, z = (b1.toNat : Int) := ⟨_, rfl⟩
  have hb := UInt8.toNat_lt b1
  rw [← hz] at hL ⊢
  have e1 : z.tmod 100 = L := by rw [hL, Int.tmod_eq_emod_of_nonneg (by omega)]
  have e2 : z % 100 = L := hL.symm
  have e3 : IntKind.i64.wrap z = z := IntWalk.i64_in _ (by omega)
  have e4 : IntKind.i64.wrap L = L := IntWalk.i64_in _ (by omega)
  have l0 : 0 ≤ L ∧ L ≤ 99 := by omega
  have hz0 : 0 ≤ z := by omega
  clear hL hz hb
  have HSM := Lib.hid hsm
  have HSS := Lib.hid (small_sm hsm)
  have HLN := Lib.hid hlen
  have hn1 : ¬ (5000 : Int) < (t.length : Int) := by omega
  have hn2 : decide ((5000 : Int) < (t.length : Int)) = false := decide_eq_false hn1
  have HCK := Lib.hid hck
  clear hsm hlen hck
  have HXS := Lib.hid (show Sm x.secs from sm_check hxck)
  have HX := Lib.hid hx.symm
  have HLD := Lib.hid hld
  have HPL := Lib.hid hpl
  obtain ⟨dl, hdl⟩ : ∃ y, y = limD x L tn := ⟨_, rfl⟩
  have HLM := Lib.hid hdl.symm
  have HLS : Hid (Sm dl.secs) := Lib.hid (by rw [hdl]; exact sm_check hxck)
  have HLL : Hid (dl.left ≤ 9223372036854775807) := Lib.hid (by rw [hdl]; show L ≤ _; omega)
  have HSV : Hid (saveD dl t = (a, g)) := Lib.hid (by rw [hdl]; exact hsv)
  clear hld hpl hsv hdl
  have HRC := Lib.hid hrc
  have HAS := Lib.hid (sm_check hack)
  obtain ⟨S, hS⟩ : ∃ S : ByteArray, S = ⟨t.toArray⟩ := ⟨_, rfl⟩
  obtain ⟨Sw, hSw⟩ : ∃ S : ByteArray, S = ⟨was.toArray⟩ := ⟨_, rfl⟩
  obtain ⟨St, hSt⟩ : ∃ S : ByteArray, S = ⟨tt.toArray⟩ := ⟨_, rfl⟩
  have HS := Lib.hid hS
  have HSw := Lib.hid hSw
  have HSt := Lib.hid hSt
  clear hrc hx hxck
  subst hg hh he
  clear hS hSw hSt hack
  go_enter Tryd.func8, Tryd.ntmps8
  go_wp2_with (first
    | (go_at_call 27; refine (rec_r HRC.out N8.out HAS.out).mono ?_; rintro e w10 ⟨A10, c10, vs10, A11, c11, rfl, hO10, _, _, k10, hB10⟩; have M10 := Lib.hid (DBox.new hO10); have al := below_one w10 (.cells #[.slice A10 x1.secs.length c10, .int .i64 x1.left, .int .i64 x1.torn, .bool x1.off, .int .i64 x1.done] 24); have N10 := Lib.hid ((N8.out.after hB10).after al); have B10 := Lib.hid (keepB al (keepB hB10 B8.out)); have R10 := Lib.hid (rd_on (rd_on R8.out hB10) al); have U10 := Lib.hid (rd_on k10 al); clear k10 hO10 hB10 al q0 q1 q2 q3 q4; obtain ⟨q0, q1, q2, q3, q4⟩ := N10.out.cells; have kc1 := conv_s HS.out _ _ At ct (rd_on HT.out B10.out); have kc2 := conv_s HSt.out _ _ A11 c11 U10.out; have kc3 := conv_s HSw.out _ _ A5 c5 R10.out; dsimp only)
    | (go_at_call 12; refine (save_w HSV.out O7.out HLS.out HLL.out (rd_on HT.out B7.out) HTC.out HLN.out).mono ?_; rintro e w8 ⟨A8, c8, vs8, rfl, hO8, hB8⟩; have N8 := Lib.hid (DBox.new hO8); have al := below_one w8 (.cells #[.slice A8 a.secs.length c8, .int .i64 a.left, .int .i64 a.torn, .bool a.off, .int .i64 a.done] 24); have B8 := Lib.hid (keepB al (keepB hB8 B7.out)); have R8 := Lib.hid (rd_on (rd_on R7.out hB8) al); clear hO8 hB8 al; obtain ⟨q0, q1, q2, q3, q4⟩ := N8.out.cells; dsimp only)
    | (go_at_call 30; refine (lim_r HLM.out D6.out HXS.out).mono ?_; rintro e w7 ⟨A7, c7, vs7, rfl, hO7, hB7⟩; have O7 := Lib.hid hO7; have B7 := Lib.hid (keepB hB7 B6.out); have R7 := Lib.hid (rd_on R6.out hB7); clear hO7 hB7 q0 q1 q2 q3 q4; dsimp only [id])
    | (go_at_call 21; refine (plan_r HPL.out D5.out HXS.out (rd_on HT.out B5.out) HTC.out HLN.out).mono ?_; rintro e w6 ⟨A6, c6, xs6, rfl, hO6, hB6⟩; have D6 := Lib.hid (D5.out.after hB6); have B6 := Lib.hid (keepB hB6 B5.out); have R6 := Lib.hid (rd_on R5.out hB6); clear hO6 hB6 q0 q1 q2 q3 q4; obtain ⟨q0, q1, q2, q3, q4⟩ := D6.out.cells; dsimp only)
    | (go_at_call 18; refine (load_r HLD.out D4.out HXS.out).mono ?_; rintro e w5 ⟨A5, c5, rfl, _, _, k5, hB5, _⟩; have D5 := Lib.hid (D4.out.after hB5); have B5 := Lib.hid (keepB hB5 B4.out); have R5 := Lib.hid k5; clear k5 hB5 z1 z2 q0 q1 q2 q3 q4; obtain ⟨q0, q1, q2, q3, q4⟩ := D5.out.cells; dsimp only)
    | (go_at_call 13; refine (on_r HX.out D3.out HSS.out).mono ?_; rintro e w4 ⟨A4, c4, vs4, rfl, hO4, hB4⟩; obtain ⟨E4, D4'⟩ := beh_close (keepB hB4 B3.out) (D3.out.blk.below hB4 D3.out.blk.lt) (Nat.le_refl _) hO4; have D4 := Lib.hid D4'; have B4 := Lib.hid E4; have z1 := (D3.out.blk.below hB4 D3.out.blk.lt).cell; have z2 := (D3.out.blk.below hB4 D3.out.blk.lt).frozen; clear hO4 hB4 E4 D4' q0 q1 q2 q3 q4; obtain ⟨q0, q1, q2, q3, q4⟩ := D4.out.cells; dsimp only [id])
    | (go_at_call 11; refine (chk_r HCK.out D2.out HSS.out).mono ?_; rintro e w3 ⟨rfl, hB3⟩; have D3 := Lib.hid (D2.out.after hB3); have B3 := Lib.hid (keepB hB3 B2.out); clear hB3 q0 q1 q2 q3 q4; obtain ⟨q0, q1, q2, q3, q4⟩ := D3.out.cells)
    | (go_at_call 10; refine (sml_r HSM.out D1.out).mono ?_; rintro e w2 ⟨rfl, hB2⟩; have D2 := Lib.hid (D1.out.after hB2); have B2 := Lib.hid (keepB hB2 B1.out); clear hB2 q0 q1 q2 q3 q4; obtain ⟨q0, q1, q2, q3, q4⟩ := D2.out.cells)
    | (go_at_call 9; refine (awake_any _).mono ?_; rintro e w1 ⟨rfl, hB1⟩; have D1 := Lib.hid (D0.out.after hB1); have B1 := Lib.hid (keepB hB1 B0.out); clear hB1 q0 q1 q2 q3 q4; obtain ⟨q0, q1, q2, q3, q4⟩ := D1.out.cells))
  go_ret
  exact ⟨rfl, B10.out⟩
end Go.Proofs.YtgeofnemlijbgaaDoor
