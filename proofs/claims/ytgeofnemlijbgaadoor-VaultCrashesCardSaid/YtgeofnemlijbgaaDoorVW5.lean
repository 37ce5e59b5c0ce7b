/- VaultCrashes: the walk where the save was cut off and a text is there. -/
import Derived.Test.YtgeofnemlijbgaaDoorVW4
namespace Go.Proofs.YtgeofnemlijbgaaDoor
open Go.RowKit
set_option linter.unusedVariables false
set_option linter.unusedSimpArgs false

theorem keep_xy {W w' : World} {gx gy : Nat} {Ax Ay : Option Addr} {cx cy : Nat} {x y : Dsk} (hx : DBox W gx Ax cx x) (hy : DBox W gy Ay cy y) (h : Below W.heap.size W w') :
    w'.cell? ⟨gx, 0, none⟩ = some (.slice Ax x.secs.length cx) ∧ w'.cell? ⟨gx, 1, none⟩ = some (.int .i64 x.left) ∧ w'.cell? ⟨gx, 2, none⟩ = some (.int .i64 x.torn) ∧ w'.cell? ⟨gx, 3, none⟩ = some (.bool x.off) ∧ w'.cell? ⟨gx, 4, none⟩ = some (.int .i64 x.done) ∧
    w'.cell? ⟨gy, 0, none⟩ = some (.slice Ay y.secs.length cy) ∧ w'.cell? ⟨gy, 1, none⟩ = some (.int .i64 y.left) ∧ w'.cell? ⟨gy, 2, none⟩ = some (.int .i64 y.torn) ∧ w'.cell? ⟨gy, 3, none⟩ = some (.bool y.off) ∧ w'.cell? ⟨gy, 4, none⟩ = some (.int .i64 y.done) ∧ Below W.heap.size W w' := by
  obtain ⟨a0, a1, a2, a3, a4⟩ := (hx.after h).cells
  obtain ⟨b0, b1, b2, b3, b4⟩ := (hy.after h).cells
  exact ⟨a0, a1, a2, a3, a4, b0, b1, b2, b3, b4, h⟩
theorem same_n {W w' : World} {gx gy : Nat} {Ax Ay : Option Addr} {cx cy : Nat} {x y : Dsk} (hx : DBox W gx Ax cx x) (hy : DBox W gy Ay cy y) (hs : Sm x.secs) (hn : noLim y = noLim x) (h : Below W.heap.size W w') :
    Calls Tryd.prog 29 #[dvD Ax cx (noLim x), dvD Ay cy (noLim y)] w' fun e w'' => e = .returned (.bool true) ∧ Below w'.heap.size w' w'' := by
  have hb := (hy.after h).secs
  have ha : Bss w' w'.heap.size Ax (noLim x).secs.length (noLim x).secs := (hx.after h).secs
  have hb' : Bss w' w'.heap.size Ay (noLim y).secs.length (noLim y).secs := hb
  rw [hn] at hb' ⊢
  exact same_eq Ax Ay cx cy (noLim x) w' ha hb' hs
set_option maxRecDepth 100000 in
set_option maxHeartbeats 16000000 in
theorem crash_text (A : Option Addr) (c : Nat) (d : Dsk) (At : Option Addr) (ct : Nat) (t : List UInt8) (b1 b2 : UInt8) (tn mo : Int) (w : World) (hd : Bss w w.heap.size A d.secs.length d.secs) (h1 : d.secs.length ≤ c) (h2 : c ≤ maxLen) (htc : t.length ≤ ct) (ht : Rd w w.heap.size At t.length (bvs t)) (hsm : smallB d.secs = true) (hlen : t.length ≤ 5000) (hck : checkB d.secs = true) (L : Int) (hL : L = (b1.toNat : Int) % 100) (x : Dsk) (hx : x = onD d) (hxck : checkB x.secs = true) (was : List UInt8) (n e : Int) (hld : loadD x = (was, n, e)) (a : Dsk) (g : Int) (hsv : saveD (limD x L tn) t = (a, g)) (hack : checkB a.secs = true) (pl : List Wr) (hpl : planD x t = (pl, 0)) (x1 : Dsk) (tt : List UInt8) (k h : Int) (hrc : recD a = (x1, tt, k, h)) (hg : g = 170) (hh : h = 0) (hle : e = 0 ∨ e = 181) (hfo : (tt = t ∧ ((e = 0 ∧ k = n + 1) ∨ (e = 181 ∧ k = 0))) ∨ (e = 0 ∧ tt = was ∧ k = n)) (hnr : -10 ≤ n ∧ n ≤ 4611686018427387904) (ao : Dsk) (hao : ao = onD a) (sl : List Wr) (hsc : scrubD ao = (sl, 0)) (hsl : sl.length ≤ 10000) (M : Int) (hM : M = (b2.toNat : Int) % 100) (b : Dsk) (pp : Int) (hdo : doD (limD ao M mo) sl = (b, pp)) (hpp : pp = 0 ∨ pp = 170) (hbck : checkB b.secs = true) (y1 : Dsk) (hrb : recD b = (y1, tt, k, 0)) (hnl : noLim y1 = noLim x1) (hx1 : checkB x1.secs = true) :
    Calls Tryd.prog 8 #[dvD A c d, .slice At t.length ct, .int .u8 (b1.toNat : Int), .int .i64 tn, .int .u8 (b2.toNat : Int), .int .i64 mo] w fun e w' => e = .returned (.bool true) ∧ Below w.heap.size w w' := by
  have D0 := Lib.hid (DBox.arg hd h1 h2)
  have B0 := Lib.hid (below_one w (.cells #[.slice A d.secs.length c, .int .i64 d.left, .int .i64 d.torn, .bool d.off, .int .i64 d.done] 24))
  have HT := Lib.hid ht
  have HTC := Lib.hid htc
  obtain ⟨q0, q1, q2, q3, q4⟩ := D0.out.cells
  clear hd h1 h2 ht htc
  obtain ⟨z, hz⟩ : ∃ z : Int, z = (b1.toNat : Int) := ⟨_, rfl⟩
  have hb := UInt8.toNat_lt b1
  rw [← hz] at hL ⊢
  have e1 : z.tmod 100 = L := by rw [hL, Int.tmod_eq_emod_of_nonneg (by omega)]
  have e2 : z % 100 = L := hL.symm
  have e3 : IntKind.i64.wrap z = z := IntWalk.i64_in _ (by omega)
  have e4 : IntKind.i64.wrap L = L := IntWalk.i64_in _ (by omega)
  have l0 : 0 ≤ L ∧ L ≤ 99 := by omega
  have hz0 : 0 ≤ z := by omega
  clear hL hz hb
  obtain ⟨z2, hz2⟩ : ∃ z : Int, z = (b2.toNat : Int) := ⟨_, rfl⟩
  have hb := UInt8.toNat_lt b2
  rw [← hz2] at hM ⊢
  have f1 : z2.tmod 100 = M := by rw [hM, Int.tmod_eq_emod_of_nonneg (by omega)]
  have f2 : z2 % 100 = M := hM.symm
  have f3 : IntKind.i64.wrap z2 = z2 := IntWalk.i64_in _ (by omega)
  have f4 : IntKind.i64.wrap M = M := IntWalk.i64_in _ (by omega)
  have m0 : 0 ≤ M ∧ M ≤ 99 := by omega
  have hz20 : 0 ≤ z2 := by omega
  clear hM hz2 hb
  have HSM := Lib.hid hsm
  have HSS := Lib.hid (small_sm hsm)
  have HLN := Lib.hid hlen
  have hn1 : ¬ (5000 : Int) < (t.length : Int) := by omega
  have hn2 : decide ((5000 : Int) < (t.length : Int)) = false := decide_eq_false hn1
  have HCK := Lib.hid hck
  clear hsm hlen hck
  have HXS := Lib.hid (show Sm x.secs from sm_check hxck)
  have HX := Lib.hid hx.symm
  have HLD := Lib.hid hld
  have HPL := Lib.hid hpl
  obtain ⟨dl, hdl⟩ : ∃ y, y = limD x L tn := ⟨_, rfl⟩
  have HLM := Lib.hid hdl.symm
  have HLS : Hid (Sm dl.secs) := Lib.hid (by rw [hdl]; exact sm_check hxck)
  have HLL : Hid (dl.left ≤ 9223372036854775807) := Lib.hid (by rw [hdl]; show L ≤ _; omega)
  have HSV : Hid (saveD dl t = (a, g)) := Lib.hid (by rw [hdl]; exact hsv)
  clear hld hpl hsv hdl
  have HRC := Lib.hid hrc
  have HAS := Lib.hid (sm_check hack)
  obtain ⟨S, hS⟩ : ∃ S : ByteArray, S = ⟨t.toArray⟩ := ⟨_, rfl⟩
  obtain ⟨Sw, hSw⟩ : ∃ S : ByteArray, S = ⟨was.toArray⟩ := ⟨_, rfl⟩
  obtain ⟨St, hSt⟩ : ∃ S : ByteArray, S = ⟨tt.toArray⟩ := ⟨_, rfl⟩
  have HS := Lib.hid hS
  have HSw := Lib.hid hSw
  have HSt := Lib.hid hSt
  clear hrc hx hxck
  have HAO := Lib.hid hao.symm
  have HAOS : Hid (Sm ao.secs) := Lib.hid (by rw [hao]; exact sm_check hack)
  have HSC := Lib.hid hsc
  have HSL := Lib.hid hsl
  obtain ⟨al, hal⟩ : ∃ y, y = limD ao M mo := ⟨_, rfl⟩
  have HAL := Lib.hid hal.symm
  have HALS : Hid (Sm al.secs) := Lib.hid (by rw [hal, hao]; exact sm_check hack)
  have HALL : Hid (al.left ≤ 9223372036854775807) := Lib.hid (by rw [hal]; show M ≤ _; omega)
  have HDO : Hid (doD al sl = (b, pp)) := Lib.hid (by rw [hal]; exact hdo)
  have HBS := Lib.hid (sm_check hbck)
  have HRB := Lib.hid hrb
  have HX1 := Lib.hid (sm_check hx1)
  have hyl : y1.secs = x1.secs := by have h0 := congrArg Dsk.secs hnl; exact h0
  have HNL := Lib.hid hnl
  have HY1 : Hid (Sm y1.secs) := Lib.hid (by rw [hyl]; exact sm_check hx1)
  obtain ⟨ob, fb, hor, hC⟩ := crash_facts hS hSw hSt hle hfo
  have HC := Lib.hid hC
  have HOR := Lib.hid hor
  have HPP := Lib.hid hpp
  have hwn : IntKind.i64.wrap (n + 1) = n + 1 := IntWalk.i64_in _ (by omega)
  have hq1 : (n == n + 1) = false := by rw [beq_eq_false_iff_ne]; omega
  have hq2 : (n + 1 == n) = false := by rw [beq_eq_false_iff_ne]; omega
  have hq3 : ¬ n = n + 1 := by omega
  have hq4 : ¬ n + 1 = n := by omega
  subst hg hh
  clear hS hSw hSt hack hle hfo hnr hao hsc hsl hal hdo hpp hbck hrb hnl hx1 hyl hor hC
  go_enter Tryd.func8, Tryd.ntmps8
  go_upto_region 15 with (first
    | (go_at_call 27; refine (rec_r HRC.out N8.out HAS.out).mono ?_; rintro e w10 ⟨A10, c10, vs10, A11, c11, rfl, hO10, _, _, k10, hB10⟩; have M10 := Lib.hid (DBox.new hO10); have al := below_one w10 (.cells #[.slice A10 x1.secs.length c10, .int .i64 x1.left, .int .i64 x1.torn, .bool x1.off, .int .i64 x1.done] 24); have N10 := Lib.hid ((N8.out.after hB10).after al); have B10 := Lib.hid (keepB al (keepB hB10 B8.out)); have R10 := Lib.hid (rd_on (rd_on R8.out hB10) al); have U10 := Lib.hid (rd_on k10 al); clear k10 hO10 hB10 al q0 q1 q2 q3 q4; obtain ⟨q0, q1, q2, q3, q4⟩ := N10.out.cells; have kc1 := conv_s HS.out _ _ At ct (rd_on HT.out B10.out); have kc2 := conv_s HSt.out _ _ A11 c11 U10.out; have kc3 := conv_s HSw.out _ _ A5 c5 R10.out; dsimp only)
    | (go_at_call 12; refine (save_w HSV.out O7.out HLS.out HLL.out (rd_on HT.out B7.out) HTC.out HLN.out).mono ?_; rintro e w8 ⟨A8, c8, vs8, rfl, hO8, hB8⟩; have N8 := Lib.hid (DBox.new hO8); have al := below_one w8 (.cells #[.slice A8 a.secs.length c8, .int .i64 a.left, .int .i64 a.torn, .bool a.off, .int .i64 a.done] 24); have B8 := Lib.hid (keepB al (keepB hB8 B7.out)); have R8 := Lib.hid (rd_on (rd_on R7.out hB8) al); clear hO8 hB8 al; obtain ⟨q0, q1, q2, q3, q4⟩ := N8.out.cells; dsimp only)
    | (go_at_call 30; refine (lim_r HLM.out D6.out HXS.out).mono ?_; rintro e w7 ⟨A7, c7, vs7, rfl, hO7, hB7⟩; have O7 := Lib.hid hO7; have B7 := Lib.hid (keepB hB7 B6.out); have R7 := Lib.hid (rd_on R6.out hB7); clear hO7 hB7 q0 q1 q2 q3 q4; dsimp only [id])
    | (go_at_call 21; refine (plan_r HPL.out D5.out HXS.out (rd_on HT.out B5.out) HTC.out HLN.out).mono ?_; rintro e w6 ⟨A6, c6, xs6, rfl, hO6, hB6⟩; have D6 := Lib.hid (D5.out.after hB6); have B6 := Lib.hid (keepB hB6 B5.out); have R6 := Lib.hid (rd_on R5.out hB6); clear hO6 hB6 q0 q1 q2 q3 q4; obtain ⟨q0, q1, q2, q3, q4⟩ := D6.out.cells; dsimp only)
    | (go_at_call 18; refine (load_r HLD.out D4.out HXS.out).mono ?_; rintro e w5 ⟨A5, c5, rfl, _, _, k5, hB5, _⟩; have D5 := Lib.hid (D4.out.after hB5); have B5 := Lib.hid (keepB hB5 B4.out); have R5 := Lib.hid k5; clear k5 hB5 z1 z2 q0 q1 q2 q3 q4; obtain ⟨q0, q1, q2, q3, q4⟩ := D5.out.cells; dsimp only)
    | (go_at_call 13; refine (on_r HX.out D3.out HSS.out).mono ?_; rintro e w4 ⟨A4, c4, vs4, rfl, hO4, hB4⟩; obtain ⟨E4, D4'⟩ := beh_close (keepB hB4 B3.out) (D3.out.blk.below hB4 D3.out.blk.lt) (Nat.le_refl _) hO4; have D4 := Lib.hid D4'; have B4 := Lib.hid E4; have z1 := (D3.out.blk.below hB4 D3.out.blk.lt).cell; have z2 := (D3.out.blk.below hB4 D3.out.blk.lt).frozen; clear hO4 hB4 E4 D4' q0 q1 q2 q3 q4; obtain ⟨q0, q1, q2, q3, q4⟩ := D4.out.cells; dsimp only [id])
    | (go_at_call 11; refine (chk_r HCK.out D2.out HSS.out).mono ?_; rintro e w3 ⟨rfl, hB3⟩; have D3 := Lib.hid (D2.out.after hB3); have B3 := Lib.hid (keepB hB3 B2.out); clear hB3 q0 q1 q2 q3 q4; obtain ⟨q0, q1, q2, q3, q4⟩ := D3.out.cells)
    | (go_at_call 10; refine (sml_r HSM.out D1.out).mono ?_; rintro e w2 ⟨rfl, hB2⟩; have D2 := Lib.hid (D1.out.after hB2); have B2 := Lib.hid (keepB hB2 B1.out); clear hB2 q0 q1 q2 q3 q4; obtain ⟨q0, q1, q2, q3, q4⟩ := D2.out.cells)
    | (go_at_call 9; refine (awake_any _).mono ?_; rintro e w1 ⟨rfl, hB1⟩; have D1 := Lib.hid (D0.out.after hB1); have B1 := Lib.hid (keepB hB1 B0.out); clear hB1 q0 q1 q2 q3 q4; obtain ⟨q0, q1, q2, q3, q4⟩ := D1.out.cells))
  clear D0 D1 D2 D3 D4 D5 D6 B0 B1 B2 B3 B4 B5 B6 B7 B8 N8 O7 R5 R6 R7 R8
  obtain ⟨r0, r1, r2, r3, r4⟩ := M10.out.cells
  obtain ⟨gx, hgx⟩ : ∃ g, g = w10.heap.size := ⟨_, rfl⟩
  rw [← hgx] at M10 r0 r1 r2 r3 r4 ⊢
  generalize (w10.alloc (.cells #[.slice A10 x1.secs.length c10, .int .i64 x1.left, .int .i64 x1.torn, .bool x1.off, .int .i64 x1.done] 24)) = W at M10 N10 B10 R10 U10 kc1 kc2 kc3 q0 q1 q2 q3 q4 r0 r1 r2 r3 r4 ⊢
  clear hgx
  rcases HC.out with ⟨rfl, rfl, rfl, rfl, rfl⟩ | ⟨rfl, rfl, rfl, rfl, rfl, rfl⟩ | ⟨rfl, rfl, rfl, rfl, rfl, u1, u2⟩ | ⟨rfl, rfl, rfl, rfl, rfl, rfl⟩ | ⟨rfl, rfl, rfl, rfl, rfl, u1, u2⟩
  all_goals
    go_upto_region 17 with (fail)
    clear kc1 kc2 kc3 R10 HC HX HLD HPL HLM HSV HRC
    go_upto_region 20 with (first
        | (go_at_call 27; refine (rec_r HRB.out N21.out HBS.out).mono ?_; rintro e w22 ⟨A22, c22, vs22, A23, c23, rfl, hO22, _, _, k22, hB22⟩; have Y22 := Lib.hid (DBox.new hO22); have al1 := below_one w22 (.cells #[.slice A22 y1.secs.length c22, .int .i64 y1.left, .int .i64 y1.torn, .bool y1.off, .int .i64 y1.done] 24); have B22 := Lib.hid (keepB al1 (keepB hB22 B21.out)); have M22 := Lib.hid ((M21.out.after hB22).after al1); have U22 := Lib.hid (rd_on (rd_on U21.out hB22) al1); have V22 := Lib.hid (rd_on k22 al1); clear k22 hO22 hB22 al1 q0 q1 q2 q3 q4; dsimp only)
        | (go_at_call 31; refine (do_w HDO.out O20.out HALS.out W20.out.wrs HSL.out HALL.out).mono ?_; rintro e w21 ⟨A21, c21, vs21, rfl, hO21, hB21⟩; have N21 := Lib.hid (DBox.new hO21); have al1 := below_one w21 (.cells #[.slice A21 b.secs.length c21, .int .i64 b.left, .int .i64 b.torn, .bool b.off, .int .i64 b.done] 24); have B21 := Lib.hid (keepB al1 (keepB hB21 B20.out)); have M21 := Lib.hid ((M20.out.after hB21).after al1); have U21 := Lib.hid (rd_on (rd_on U20.out hB21) al1); clear hO21 hB21 al1; obtain ⟨q0, q1, q2, q3, q4⟩ := N21.out.cells; dsimp only)
        | (go_at_call 30; refine (lim_w HAL.out O19.out HAOS.out).mono ?_; rintro e w20 ⟨A20, c20, vs20, rfl, hO20, hB20⟩; have O20 := Lib.hid hO20; have B20 := Lib.hid (keepB hB20 B19.out); have W20 := Lib.hid (W19.out.below hB20); have M20 := Lib.hid (M19.out.after hB20); have U20 := Lib.hid (rd_on U19.out hB20); clear hO20 hB20; dsimp only [id])
        | (go_at_call 13; refine (on_r HAO.out N18.out HAS.out).mono ?_; rintro e w19 ⟨A19, c19, vs19, rfl, hO19, hB19⟩; have O19 := Lib.hid hO19; have B19 := Lib.hid (keepB hB19 B18.out); have W19 := Lib.hid (W18.out.below hB19); have M19 := Lib.hid (M18.out.after hB19); have U19 := Lib.hid (rd_on U18.out hB19); clear hO19 hB19 q0 q1 q2 q3 q4; dsimp only [id])
        | (go_at_call 14; refine (scrub_w HSC.out O17.out HAOS.out).mono ?_; rintro e w18 ⟨A18, c18, xs18, rfl, hO18, hB18⟩; have W18 := Lib.hid hO18; have B18 := Lib.hid (keepB hB18 B17.out); have N18 := Lib.hid (N17.out.after hB18); have M18 := Lib.hid (M17.out.after hB18); have U18 := Lib.hid (rd_on U17.out hB18); clear hO18 hB18 q0 q1 q2 q3 q4; obtain ⟨q0, q1, q2, q3, q4⟩ := N18.out.cells; dsimp only)
        | (go_at_call 13; refine (on_r HAO.out N10.out HAS.out).mono ?_; rintro e w17 ⟨A17, c17, vs17, rfl, hO17, hB17⟩; have O17 := Lib.hid hO17; have B17 := Lib.hid (keepB hB17 B10.out); have N17 := Lib.hid (N10.out.after hB17); have M17 := Lib.hid (M10.out.after hB17); have U17 := Lib.hid (rd_on U10.out hB17); clear hO17 hB17 q0 q1 q2 q3 q4; obtain ⟨q0, q1, q2, q3, q4⟩ := N17.out.cells; dsimp only [id]))
    clear N10 M10 B10 U10 O17 N17 M17 U17 B17 W18 N18 M18 U18 B18 O19 W19 M19 U19 B19 O20 W20 M20 U20 B20 N21 M21 U21 B21 r0 r1 r2 r3 r4
    obtain ⟨gy, hgy⟩ : ∃ g, g = w22.heap.size := ⟨_, rfl⟩
    rw [← hgy] at Y22 ⊢
    generalize (w22.alloc (.cells #[.slice A22 y1.secs.length c22, .int .i64 y1.left, .int .i64 y1.torn, .bool y1.off, .int .i64 y1.done] 24)) = Wy at Y22 M22 U22 V22 B22 ⊢
    clear hgy
    obtain ⟨r0, r1, r2, r3, r4⟩ := M22.out.cells
    obtain ⟨q0, q1, q2, q3, q4⟩ := Y22.out.cells
    go_region_held3 (fun w' => w'.cell? ⟨gx, 0, none⟩ = some (.slice A10 x1.secs.length c10) ∧ w'.cell? ⟨gx, 1, none⟩ = some (.int .i64 x1.left) ∧ w'.cell? ⟨gx, 2, none⟩ = some (.int .i64 x1.torn) ∧ w'.cell? ⟨gx, 3, none⟩ = some (.bool x1.off) ∧ w'.cell? ⟨gx, 4, none⟩ = some (.int .i64 x1.done) ∧ w'.cell? ⟨gy, 0, none⟩ = some (.slice A22 y1.secs.length c22) ∧ w'.cell? ⟨gy, 1, none⟩ = some (.int .i64 y1.left) ∧ w'.cell? ⟨gy, 2, none⟩ = some (.int .i64 y1.torn) ∧ w'.cell? ⟨gy, 3, none⟩ = some (.bool y1.off) ∧ w'.cell? ⟨gy, 4, none⟩ = some (.int .i64 y1.done) ∧ Below Wy.heap.size Wy w')
      ((refine keep_xy M22.out Y22.out ?_; first | simp only [Below.refl, bel_dr, bel_al, *] | assumption))
      (first
        | (go_at_call 32; go_split_ands; refine (limless_any A10 c10 x1 _).mono ?_; rintro e wa ⟨rfl, hBa⟩; have hWa := keepB hBa (W := Wy) (by with_reducible assumption))
        | (go_at_call 32; go_split_ands; refine (limless_any A22 c22 y1 _).mono ?_; rintro e wb ⟨rfl, hBb⟩; have hWb := keepB hBb (W := Wy) (by with_reducible assumption))
        | (go_at_call 29; go_split_ands; refine (same_n M22.out Y22.out HX1.out HNL.out (by with_reducible assumption)).mono ?_; rintro e we ⟨rfl, hBe⟩; have hWe := keepB hBe (W := Wy) (by with_reducible assumption)))
    all_goals
      have kc1 := conv_s HSt.out _ _ A11 c11 (rd_on U22.out hWe)
      have kc2 := conv_s HSt.out _ _ A23 c23 (rd_on V22.out hWe)
      rcases HPP.out with rfl | rfl
      all_goals
        go_wp2
        go_ret
        exact ⟨rfl, keepB hWe B22.out⟩
end Go.Proofs.YtgeofnemlijbgaaDoor
