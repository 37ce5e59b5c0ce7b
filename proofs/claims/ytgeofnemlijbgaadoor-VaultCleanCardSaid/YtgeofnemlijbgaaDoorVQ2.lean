/- VaultClean: the walk. -/
import Derived.Test.YtgeofnemlijbgaaDoorVQ1
namespace Go.Proofs.YtgeofnemlijbgaaDoor
open Go.RowKit
set_option linter.unusedVariables false
set_option linter.unusedSimpArgs false

theorem save_o {A : Option Addr} {c base : Nat} {d x : Dsk} {vs : List Value} {w : World} {At : Option Addr} {ct : Nat} {t : List UInt8} {e : Int} (hr : saveD d t = (x, e)) (h : OwnS w base (.slice A d.secs.length c) vs d.secs) (hs : Sm d.secs) (hli : d.left ≤ 9223372036854775807) (ht : Rd w w.heap.size At t.length (bvs t)) (htc : t.length ≤ ct) (htl : t.length ≤ 5000) : Calls Tryd.prog 12 #[dvD A c d, .slice At t.length ct] w (DRet w x fun v => .tuple #[v, .int .i64 e]) := by
  obtain ⟨_, _, e4, f1, f2⟩ := h.form
  injection e4 with ea _ ec
  subst ea
  subst ec
  have := save_any A c d At ct t w h.bss f1 f2 hs hli ht htc (by omega); rw [hr] at this; exact this
theorem str_ne {l m : List UInt8} {S Z : ByteArray} (hS : S = ⟨l.toArray⟩) (hZ : Z = ⟨m.toArray⟩) (h : ¬ l = m) : (S.toList == Z.toList) = false ∧ ¬ S.toList = Z.toList := by
  have h1 : ¬ S.toList = Z.toList := by rw [hS, hZ]; simpa using h
  exact ⟨by simpa using h1, h1⟩
theorem own_z64r (w : World) : Rd (w.alloc (.cells z64 5)) (w.alloc (.cells z64 5)).heap.size (some ⟨w.heap.size, 0, none⟩) 64 (bvs (zeros 64)) := own_rd (own_z64 w w.heap.size (Nat.le_refl _))
theorem conv_z {w : World} {B : Nat} {A : Option Addr} {Z : ByteArray} (hZ : Z = ⟨(zeros 64).toArray⟩) (h : Rd w B A 64 (bvs (zeros 64))) (c : Nat) : (convert 25 9 (.slice A 64 c)).run Tryd.prog w = .ok (.string Z) w := by
  have e : (zeros 64).length = 64 := zeros_length 64
  have := conv_rd (l := zeros 64) (A := A) (by rw [e]; exact h) c
  rw [e] at this
  rw [hZ]
  exact this
set_option maxRecDepth 100000 in
set_option maxHeartbeats 8000000 in
theorem clean_walk (A : Option Addr) (c : Nat) (d : Dsk) (v : Value) (t : List UInt8) (w : World) (hd : Bss w w.heap.size A d.secs.length d.secs) (h1 : d.secs.length ≤ c) (h2 : c ≤ maxLen) (hv : Bs w w.heap.size v t) :
    Calls Tryd.prog 3 #[dvD A c d, v] w fun e w' => e = .returned (.bool true) ∧ Below w.heap.size w w' := by
  obtain ⟨At, ct, rfl, htc, htm, ht⟩ := hv
  have D0 := Lib.hid (DBox.arg hd h1 h2)
  have B0 := Lib.hid (below_one w (.cells #[.slice A d.secs.length c, .int .i64 d.left, .int .i64 d.torn, .bool d.off, .int .i64 d.done] 24))
  have HT := Lib.hid ht
  have HTC := Lib.hid htc
  obtain ⟨q0, q1, q2, q3, q4⟩ := D0.out.cells
  clear hd h1 h2 ht htc htm
  cases hsm : smallB d.secs
  · have HSM := Lib.hid hsm
    clear hsm
    go_enter Tryd.func3, Tryd.ntmps3
    go_wp2_with (first
      | (go_at_call 9; refine (awake_any _).mono ?_; rintro e w1 ⟨rfl, hB1⟩; have D1 := Lib.hid (D0.out.after hB1); have B1 := Lib.hid (keepB hB1 B0.out); clear hB1 q0 q1 q2 q3 q4; obtain ⟨q0, q1, q2, q3, q4⟩ := D1.out.cells)
      | (go_at_call 10; refine (sml_r HSM.out D1.out).mono ?_; rintro e w2 ⟨rfl, hB2⟩))
    go_ret
    exact ⟨rfl, keepB hB2 B1.out⟩
  · by_cases hlen : t.length ≤ 5000
    · have hSm := small_sm hsm
      have h100 := (smallB_out hsm).1
      have HSM := Lib.hid hsm
      have HSS := Lib.hid hSm
      have HLN := Lib.hid hlen
      have hn1 : ¬ (5000 : Int) < (t.length : Int) := by omega
      have hn2 : decide ((5000 : Int) < (t.length : Int)) = false := decide_eq_false hn1
      clear hsm hSm
      cases hck : checkB d.secs
      · have HCK := Lib.hid hck
        clear hck
        go_enter Tryd.func3, Tryd.ntmps3
        go_wp2_with (first
          | (go_at_call 9; refine (awake_any _).mono ?_; rintro e w1 ⟨rfl, hB1⟩; have D1 := Lib.hid (D0.out.after hB1); have B1 := Lib.hid (keepB hB1 B0.out); clear hB1 q0 q1 q2 q3 q4; obtain ⟨q0, q1, q2, q3, q4⟩ := D1.out.cells)
          | (go_at_call 10; refine (sml_r HSM.out D1.out).mono ?_; rintro e w2 ⟨rfl, hB2⟩; have D2 := Lib.hid (D1.out.after hB2); have B2 := Lib.hid (keepB hB2 B1.out); clear hB2 q0 q1 q2 q3 q4; obtain ⟨q0, q1, q2, q3, q4⟩ := D2.out.cells)
          | (go_at_call 11; refine (chk_r HCK.out D2.out HSS.out).mono ?_; rintro e w3 ⟨rfl, hB3⟩))
        go_ret
        exact ⟨rfl, keepB hB3 B2.out⟩
      · have HCK := Lib.hid hck
        obtain ⟨x, hx⟩ : ∃ x, x = onD d := ⟨_, rfl⟩
        have hxck : checkB x.secs = true := by rw [hx]; exact hck
        have hxon : OnD x := by rw [hx]; exact ⟨rfl, rfl⟩
        have hxl : x.secs.length ≤ 100 := by rw [hx]; exact h100
        have HXS := Lib.hid (sm_check hxck)
        have HX := Lib.hid hx.symm
        have hli : x.left ≤ 9223372036854775807 := by rw [hxon.2]; omega
        have HLI := Lib.hid hli
        cases hf : fullD x t
        · obtain ⟨s1, s2, s3, s4, s5⟩ := save_has hxck hxon hf
          have HSV : Hid (saveD x t = ((saveD x t).1, 0)) := Lib.hid (Prod.ext rfl s1)
          obtain ⟨k, n, hkn⟩ : ∃ k n, Has (saveD x t).1 k n t := ⟨_, _, s2⟩
          generalize (saveD x t).1 = a at HSV hkn s3
          have HH := Lib.hid hkn
          obtain ⟨N, hN⟩ : ∃ N, N = a.secs.length := ⟨_, rfl⟩
          obtain ⟨g1, g2, g3, g4⟩ := halfD_eq hkn.ck
          obtain ⟨h, hhe⟩ : ∃ h, h = halfD a := ⟨_, rfl⟩
          have HAR0 : Hid (areaN (N : Int) 0 = (0, (h : Int))) := Lib.hid (by rw [hhe, hN]; exact areaN_at hkn.ck (k := 0) (by omega))
          have HAR1 : Hid (areaN (N : Int) 1 = ((h : Int), (h : Int))) := Lib.hid (by rw [hhe, hN]; exact areaN_at hkn.ck (k := 1) (by omega))
          have hN1 : N ≤ 100 ∧ 4 ≤ N ∧ (N = 2 * h ∨ N = 2 * h + 1) := by have := (checkB_len hkn.ck).1; rw [hN, hhe]; omega
          have HN1 := Lib.hid hN1
          have HAS := Lib.hid (sm_check hkn.ck)
          have HSC := Lib.hid hkn.scrub
          have HN := Lib.hid hN
          have HHF := Lib.hid hhe
          obtain ⟨Z, hZ⟩ : ∃ Z : ByteArray, Z = ⟨(zeros 64).toArray⟩ := ⟨_, rfl⟩
          have HZ := Lib.hid hZ
          have hmk := run_make64
          clear hN1 hck hx hxck hxon hli hf s1 s2 s3 s4 s5 hkn hN g1 g2 g3 g4 hhe hZ hlen h100 hxl
          go_enter Tryd.func3, Tryd.ntmps3
          go_upto_region 8 with (first
            | (go_at_call 12; refine (save_o HSV.out O4.out HXS.out HLI.out (rd_on HT.out B4.out) HTC.out HLN.out).mono ?_; rintro e w6 ⟨A6, c6, vs6, rfl, hO6, hB6⟩; have N6 := Lib.hid (DBox.new hO6); have B6 := Lib.hid (bel_al (o := .cells #[.slice A6 a.secs.length c6, .int .i64 a.left, .int .i64 a.torn, .bool a.off, .int .i64 a.done] 24) (keepB hB6 B4.out)); clear hO6 hB6; obtain ⟨q0, q1, q2, q3, q4⟩ := N6.out.cells; dsimp only)
            | (go_at_call 13; refine (on_r HX.out D3.out HSS.out).mono ?_; rintro e w4 ⟨A4, c4, vs4, rfl, hO4, hB4⟩; have O4 := Lib.hid hO4; have B4 := Lib.hid (keepB hB4 B3.out); clear hO4 hB4 q0 q1 q2 q3 q4; dsimp only [id])
            | (go_at_call 11; refine (chk_r HCK.out D2.out HSS.out).mono ?_; rintro e w3 ⟨rfl, hB3⟩; have D3 := Lib.hid (D2.out.after hB3); have B3 := Lib.hid (keepB hB3 B2.out); clear hB3 q0 q1 q2 q3 q4; obtain ⟨q0, q1, q2, q3, q4⟩ := D3.out.cells)
            | (go_at_call 10; refine (sml_r HSM.out D1.out).mono ?_; rintro e w2 ⟨rfl, hB2⟩; have D2 := Lib.hid (D1.out.after hB2); have B2 := Lib.hid (keepB hB2 B1.out); clear hB2 q0 q1 q2 q3 q4; obtain ⟨q0, q1, q2, q3, q4⟩ := D2.out.cells)
            | (go_at_call 9; refine (awake_any _).mono ?_; rintro e w1 ⟨rfl, hB1⟩; have D1 := Lib.hid (D0.out.after hB1); have B1 := Lib.hid (keepB hB1 B0.out); clear hB1 q0 q1 q2 q3 q4; obtain ⟨q0, q1, q2, q3, q4⟩ := D1.out.cells))
          clear D0 D1 D2 D3 B0 B1 B2 B3
          rw [← HN.out] at q0
          have kz := fun W : World => conv_z HZ.out (own_z64r W) 64
          obtain ⟨ga, hga⟩ : ∃ g, g = w6.heap.size := ⟨_, rfl⟩
          rw [← hga] at N6 q0 q1 q2 q3 q4 ⊢
          generalize (w6.alloc (.cells #[.slice A6 a.secs.length c6, .int .i64 a.left, .int .i64 a.torn, .bool a.off, .int .i64 a.done] 24)) = W6 at N6 B6 q0 q1 q2 q3 q4 ⊢
          clear hga
          have N7 := Lib.hid (N6.out.alloc (.cells z64 5))
          have B7 := Lib.hid (bel_al (o := .cells z64 5) B6.out)
          have y0 := N7.out.cells.1
          rw [← HN.out] at y0
          go_wp2
          generalize (W6.alloc (.cells z64 5)) = W7 at N7 B7 y0 ⊢
          clear N6 B6 B4 O4 q0 q1 q2 q3 q4 kz hmk
          go_loopw [8, 10] (fun s8 s10 wr => ∃ j : Nat, j ≤ N ∧ s10 = .int .i64 (j : Int) ∧ s8 = .int .i64 (cntZ a.secs j : Int) ∧ wr = W7) (fun _ s10 _ => N - (intOf s10).toNat)
          case atStart => exact ⟨0, Nat.zero_le _, rfl, rfl, rfl⟩
          case round =>
            obtain ⟨j, hj, rfl, rfl, hwr⟩ := hrel
            subst hwr
            have hcj := cntZ_le a.secs j
            by_cases hlt : j < N
            · obtain ⟨ad, As, cs, s, hAe, hb0, hl0, hc, hlc, hcm, hR⟩ := N7.out.secs.at_ (k := j) (by rw [← HN.out]; exact hlt)
              subst hAe
              have HL0 := Lib.hid hl0
              have hk0 : (0 : Int) ≤ (j : Int) := by omega
              have hk1 : (j : Int) < (N : Int) := by omega
              obtain ⟨S, hS⟩ : ∃ S : ByteArray, S = ⟨s.toArray⟩ := ⟨_, rfl⟩
              have kc : (convert 25 9 (.slice As s.length cs)).run Tryd.prog wr = .ok (.string S) wr := by rw [hS]; exact conv_rd hR cs
              have hw : IntKind.i64.wrap ((cntZ a.secs j : Int) + 1) = (cntZ a.secs j : Int) + 1 := IntWalk.i64_in _ (by have := HN1.out.1; omega)
              have h9 := HN1.out.1
              clear hl0 hb0 hcm hlc hR hcj
              by_cases hz : s = zeros 64
              · obtain rfl : S = Z := by rw [hS, HZ.out, hz]
                have e1 : (S.toList != S.toList) = false := by simp
                have e2 : (S.toList == S.toList) = true := by simp
                have HZZ := Lib.hid hz
                clear hS hz
                go_wp2
                go_roundw
                case rel => exact ⟨j + 1, by omega, by go_num, by rw [cntZ_no HL0.out HZZ.out], by trivial⟩
                case measure => simp [intOf]; omega
              · obtain ⟨e1, e2⟩ := str_ne hS HZ.out hz
                have HZZ := Lib.hid hz
                clear hS hz
                go_wp2
                go_roundw
                case rel => exact ⟨j + 1, by omega, by go_num, by rw [cntZ_yes HL0.out HZZ.out]; go_num, by trivial⟩
                case measure => simp [intOf]; omega
            · have hjN : j = N := by omega
              have hjn : ¬ (j : Int) < (N : Int) := by omega
              have hjn2 : decide ((j : Int) < (N : Int)) = false := decide_eq_false hjn
              obtain ⟨C, hC⟩ : ∃ C, C = cntZ a.secs j := ⟨_, rfl⟩
              have HC : Hid (C = cntZ a.secs N) := Lib.hid (by rw [hC, hjN])
              rw [← hC]
              clear hcj hC hjN hj hlt
              go_upto_region 14 with (fail)
              clear y0
              obtain ⟨q0, q1, q2, q3, q4⟩ := N7.out.cells
              go_upto_region 16 with (first
                | (go_at_call 14; refine (scrub_r HSC.out N7.out HAS.out).mono ?_; rintro e w8 ⟨A8, c8, xs8, rfl, hO8, hB8⟩; have N8 := Lib.hid (N7.out.after hB8); have B8 := Lib.hid (keepB hB8 B7.out); clear hO8 hB8 q0 q1 q2 q3 q4; have y0 := N8.out.cells.1; rw [← HN.out] at y0; dsimp only)
                | (go_at_call 15; refine (area_any _ _ _).mono ?_; rw [HAR0.out]; rintro e w9 ⟨rfl, hB9⟩; have N9 := Lib.hid (N8.out.after hB9); have B9 := Lib.hid (keepB hB9 B8.out); clear hB9 y0; have y0 := N9.out.cells.1; rw [← HN.out] at y0))
              obtain ⟨ad, As0, cs0, s0, hAe, _, hl0, hc0, _, _, hR0⟩ := N9.out.secs.at_ (k := 0) (by rw [← HN.out]; have := HN1.out; omega)
              subst hAe
              have hc0' : w9.cell? ad = some (.slice As0 s0.length cs0) := by have h := hc0; rwa [show ad.add 0 = ad by simp [Addr.add]] at h
              have hN0 : (0 : Int) < (N : Int) := by have := HN1.out; omega
              have hN0' : decide ((0 : Int) < (N : Int)) = true := decide_eq_true hN0
              obtain ⟨S0, hS0⟩ : ∃ S : ByteArray, S = ⟨s0.toArray⟩ := ⟨_, rfl⟩
              have kc0 : (convert 25 9 (.slice As0 s0.length cs0)).run Tryd.prog w9 = .ok (.string S0) w9 := by rw [hS0]; exact conv_rd hR0 cs0
              clear N7 N8 B7 B8 hR0 hjn hjn2
              rcases HH.out.first hl0 with ⟨rfl, hz, hat⟩ | ⟨rfl, hz, hat⟩
              · obtain ⟨e1, e2⟩ := str_ne hS0 HZ.out hz
                have HAT := Lib.hid hat
                have HPN : Hid (pn t ≤ h - 1) := Lib.hid (by have := (used_le HH.out.ck HH.out.new).1; rw [← HHF.out] at this; exact this)
                clear hS0 hz hat hl0
                go_wp2
                clear e1 e2 kc0 hc0 hc0'
                go_loopw [15] (fun s15 wr => ∃ j : Nat, j ≤ N ∧ s15 = .int .i64 (j : Int) ∧ wr = w9) (fun s15 _ => N - (intOf s15).toNat)
                case atStart => exact ⟨0, Nat.zero_le _, rfl, rfl⟩
                case round =>
                  obtain ⟨j, hj, rfl, hwr⟩ := hrel
                  subst hwr
                  have hwh2 : IntKind.i64.wrap (2 * (h : Int)) = 2 * (h : Int) := IntWalk.i64_in _ (by have := HN1.out; omega)
                  have hwa : IntKind.i64.wrap (h : Int) = (h : Int) := IntWalk.i64_in _ (by have := HN1.out; omega)
                  have hwa0 : IntKind.i64.wrap (0 + (h : Int)) = (h : Int) := IntWalk.i64_in _ (by have := HN1.out; omega) |>.trans (by omega)
                  by_cases hlt : j < N
                  · obtain ⟨ad', As, cs, s, hAe, hb0, hl1, hc, hlc, hcm, hR⟩ := N9.out.secs.at_ (k := j) (by rw [← HN.out]; exact hlt)
                    injection hAe with hAe
                    subst hAe
                    have HL1 := Lib.hid hl1
                    have hk0 : (0 : Int) ≤ (j : Int) := by omega
                    have hk1 : (j : Int) < (N : Int) := by omega
                    obtain ⟨S, hS⟩ : ∃ S : ByteArray, S = ⟨s.toArray⟩ := ⟨_, rfl⟩
                    have kc : (convert 25 9 (.slice As s.length cs)).run Tryd.prog wr = .ok (.string S) wr := by rw [hS]; exact conv_rd hR cs
                    have HS := Lib.hid hS
                    have h9 := HN1.out.1
                    clear hl1 hb0 hcm hlc hR hS
                    have d1 : decide ((j : Int) < 0) = false := decide_eq_false (by omega)
                    by_cases hown : j < h
                    · skip
                      have d2 : decide ((h : Int) ≤ (j : Int)) = false := decide_eq_false (by omega)
                      have d2' : ¬ (h : Int) ≤ (j : Int) := by omega
                      clear hown
                      go_wp2
                      go_roundw
                      case rel => exact ⟨j + 1, by omega, by go_num, by trivial⟩
                      case measure => simp [intOf]; omega
                    · skip
                      have d2 : decide ((h : Int) ≤ (j : Int)) = true := decide_eq_true (by omega)
                      have d2' : (h : Int) ≤ (j : Int) := by omega
                      by_cases hz2 : s = zeros 64
                      · obtain rfl : S = Z := by rw [HS.out, HZ.out, hz2]
                        have e1 : (S.toList != S.toList) = false := by simp
                        have e2 : (S.toList == S.toList) = true := by simp
                        clear hz2
                        go_wp2
                        go_roundw
                        case rel => exact ⟨j + 1, by omega, by go_num, by trivial⟩
                        case measure => simp [intOf]; omega
                      · obtain ⟨e1, e2⟩ := str_ne HS.out HZ.out hz2
                        have hfu := HH.out.full HL1.out hz2
                        rw [HAT.out, ← HHF.out] at hfu
                        have hpn := HPN.out
                        have hge : 2 * h ≤ j := by omega
                        have d3 : decide ((j : Int) < 2 * (h : Int)) = false := decide_eq_false (by omega)
                        have d3' : ¬ (j : Int) < 2 * (h : Int) := by omega
                        clear hz2 hfu hpn
                        go_wp2
                        go_roundw
                        case rel => exact ⟨j + 1, by omega, by go_num, by trivial⟩
                        case measure => simp [intOf]; omega
                  · have hjn : ¬ (j : Int) < (N : Int) := by omega
                    have hjn2 : decide ((j : Int) < (N : Int)) = false := decide_eq_false hjn
                    obtain ⟨pt, hpt⟩ : ∃ q, q = pn t := ⟨_, rfl⟩
                    have hpe : pt = (t.length + 63) / 64 := hpt
                    have h5k := HLN.out
                    have hu1 : IntKind.i64.wrap ((t.length : Int) + 63) = (t.length : Int) + 63 := IntWalk.i64_in _ (by omega)
                    have hu3 : ((t.length : Int) + 63).tdiv 64 = (pt : Int) := by rw [Int.tdiv_eq_ediv_of_nonneg (by omega), hpe]; omega
                    have hu4 : ((t.length : Int) + 63) / 64 = (pt : Int) := by rw [hpe]; omega
                    have hu5 : IntKind.i64.wrap (1 + (pt : Int)) = 1 + (pt : Int) := IntWalk.i64_in _ (by omega)
                    have hu6 : IntKind.i64.wrap (pt : Int) = (pt : Int) := IntWalk.i64_in _ (by omega)
                    have HPT := Lib.hid hpt
                    clear hpt hpe h5k hj hlt
                    rcases HN1.out.2.2 with hev | hod
                    · skip
                      have n1 : decide (2 * (h : Int) < (N : Int)) = false := decide_eq_false (by omega)
                      have n1' : ¬ 2 * (h : Int) < (N : Int) := by omega
                      have hcn : C ≤ 1 + pt := by rw [HC.out, HPT.out]; have h1 := HH.out.count (fun l h1 => by rw [← HN.out, ← HHF.out] at h1; omega) N (by rw [HN.out]; exact Nat.le_refl _); omega
                      have c1 : decide ((C : Int) ≤ 1 + (pt : Int)) = true := decide_eq_true (by omega)
                      have c2 : (C : Int) ≤ 1 + (pt : Int) := by omega
                      clear hev hcn
                      go_wp2
                      go_ret
                      exact ⟨rfl, B9.out⟩
                    · obtain ⟨ad', Al1, cl1, sl, hAe, hb0, hl1, hc, hlc, hcm, hR⟩ := N9.out.secs.at_ (k := N - 1) (by rw [← HN.out]; omega)
                      injection hAe with hAe
                      subst hAe
                      have HL1 := Lib.hid hl1
                      have n1 : decide (2 * (h : Int) < (N : Int)) = true := decide_eq_true (by omega)
                      have n1' : 2 * (h : Int) < (N : Int) := by omega
                      obtain ⟨M, hM⟩ : ∃ M, M = N - 1 := ⟨_, rfl⟩
                      rw [← hM] at hc HL1
                      have hm0 : (0 : Int) ≤ (M : Int) := by omega
                      have hm1 : (M : Int) < (N : Int) := by omega
                      have hm2 : (N : Int) - 1 = (M : Int) := by omega
                      have hm3 : IntKind.i64.wrap ((N : Int) - 1) = (M : Int) := by rw [IntWalk.i64_in _ (by have := HN1.out; omega)]; exact hm2
                      have hm4 : IntKind.i64.wrap (M : Int) = (M : Int) := IntWalk.i64_in _ (by have := HN1.out; omega)
                      obtain ⟨S, hS⟩ : ∃ S : ByteArray, S = ⟨sl.toArray⟩ := ⟨_, rfl⟩
                      have kc : (convert 25 9 (.slice Al1 sl.length cl1)).run Tryd.prog wr = .ok (.string S) wr := by rw [hS]; exact conv_rd hR cl1
                      have HS := Lib.hid hS
                      have HM := Lib.hid hM
                      clear hl1 hb0 hcm hlc hR hS hM hod
                      by_cases hz2 : sl = zeros 64
                      · obtain rfl : S = Z := by rw [HS.out, HZ.out, hz2]
                        have e1 : (S.toList != S.toList) = false := by simp
                        have e2 : (S.toList == S.toList) = true := by simp
                        have hcn : C ≤ 1 + pt := by rw [HC.out, HPT.out]; have h1 := HH.out.count (fun l _ h2 => by rw [← HN.out, ← HM.out, HL1.out] at h2; injection h2 with h2; rw [← h2, hz2]) N (by rw [HN.out]; exact Nat.le_refl _); omega
                        have c1 : decide ((C : Int) ≤ 1 + (pt : Int)) = true := decide_eq_true (by omega)
                        have c2 : (C : Int) ≤ 1 + (pt : Int) := by omega
                        clear hz2 hcn
                        go_wp2
                        go_ret
                        exact ⟨rfl, B9.out⟩
                      · obtain ⟨e1, e2⟩ := str_ne HS.out HZ.out hz2
                        clear hz2
                        go_wp2
                        go_ret
                        exact ⟨rfl, B9.out⟩
              · obtain rfl : S0 = Z := by rw [hS0, HZ.out, hz]
                have HAT := Lib.hid hat
                rw [← HHF.out] at HAT
                have e1 : (S0.toList != S0.toList) = false := by simp
                have e2 : (S0.toList == S0.toList) = true := by simp
                have HPN : Hid (pn t ≤ h - 1) := Lib.hid (by have := (used_le HH.out.ck HH.out.new).1; rw [← HHF.out] at this; exact this)
                clear hS0 hz hat hl0
                go_wp2_with (go_at_call 15; refine (area_any _ _ _).mono ?_; rw [HAR1.out]; rintro e w10 ⟨rfl, hB10⟩; have N10 := Lib.hid (N9.out.after hB10); have B10 := Lib.hid (keepB hB10 B9.out); clear hB10 y0; have y0 := N10.out.cells.1; rw [← HN.out] at y0)
                clear e1 e2 kc0 hc0 hc0'
                go_loopw [15] (fun s15 wr => ∃ j : Nat, j ≤ N ∧ s15 = .int .i64 (j : Int) ∧ wr = w10) (fun s15 _ => N - (intOf s15).toNat)
                case atStart => exact ⟨0, Nat.zero_le _, rfl, rfl⟩
                case round =>
                  obtain ⟨j, hj, rfl, hwr⟩ := hrel
                  subst hwr
                  have hwh2 : IntKind.i64.wrap (2 * (h : Int)) = 2 * (h : Int) := IntWalk.i64_in _ (by have := HN1.out; omega)
                  have hwa : IntKind.i64.wrap ((h : Int) + (h : Int)) = 2 * (h : Int) := (IntWalk.i64_in _ (by have := HN1.out; omega)).trans (by omega)
                  by_cases hlt : j < N
                  · obtain ⟨ad', As, cs, s, hAe, hb0, hl1, hc, hlc, hcm, hR⟩ := N10.out.secs.at_ (k := j) (by rw [← HN.out]; exact hlt)
                    injection hAe with hAe
                    subst hAe
                    have HL1 := Lib.hid hl1
                    have hk0 : (0 : Int) ≤ (j : Int) := by omega
                    have hk1 : (j : Int) < (N : Int) := by omega
                    obtain ⟨S, hS⟩ : ∃ S : ByteArray, S = ⟨s.toArray⟩ := ⟨_, rfl⟩
                    have kc : (convert 25 9 (.slice As s.length cs)).run Tryd.prog wr = .ok (.string S) wr := by rw [hS]; exact conv_rd hR cs
                    have HS := Lib.hid hS
                    have h9 := HN1.out.1
                    clear hl1 hb0 hcm hlc hR hS
                    by_cases hlow : j < h
                    · skip
                      have d1 : decide ((j : Int) < (h : Int)) = true := decide_eq_true (by omega)
                      have d1' : (j : Int) < (h : Int) := by omega
                      by_cases hz2 : s = zeros 64
                      · obtain rfl : S = S0 := by rw [HS.out, HZ.out, hz2]
                        have e1 : (S.toList != S.toList) = false := by simp
                        have e2 : (S.toList == S.toList) = true := by simp
                        clear hz2
                        go_wp2
                        go_roundw
                        case rel => exact ⟨j + 1, by omega, by go_num, by trivial⟩
                        case measure => simp [intOf]; omega
                      · obtain ⟨e1, e2⟩ := str_ne HS.out HZ.out hz2
                        have hfu := HH.out.full HL1.out hz2
                        rw [HAT.out, ← HHF.out] at hfu
                        have hpn := HPN.out
                        exfalso
                        omega
                    · have d1 : decide ((j : Int) < (h : Int)) = false := decide_eq_false (by omega)
                      have d1' : ¬ (j : Int) < (h : Int) := by omega
                      by_cases hown : j < 2 * h
                      · skip
                        have d2 : decide (2 * (h : Int) ≤ (j : Int)) = false := decide_eq_false (by omega)
                        have d2' : ¬ 2 * (h : Int) ≤ (j : Int) := by omega
                        clear hown
                        go_wp2
                        go_roundw
                        case rel => exact ⟨j + 1, by omega, by go_num, by trivial⟩
                        case measure => simp [intOf]; omega
                      · skip
                        have d2 : decide (2 * (h : Int) ≤ (j : Int)) = true := decide_eq_true (by omega)
                        have d2' : 2 * (h : Int) ≤ (j : Int) := by omega
                        by_cases hz2 : s = zeros 64
                        · obtain rfl : S = S0 := by rw [HS.out, HZ.out, hz2]
                          have e1 : (S.toList != S.toList) = false := by simp
                          have e2 : (S.toList == S.toList) = true := by simp
                          clear hz2
                          go_wp2
                          go_roundw
                          case rel => exact ⟨j + 1, by omega, by go_num, by trivial⟩
                          case measure => simp [intOf]; omega
                        · obtain ⟨e1, e2⟩ := str_ne HS.out HZ.out hz2
                          have hfu := HH.out.full HL1.out hz2
                          rw [HAT.out, ← HHF.out] at hfu
                          have hpn := HPN.out
                          have hge : 2 * h ≤ j := by omega
                          have d3 : decide ((j : Int) < 2 * (h : Int)) = false := decide_eq_false (by omega)
                          have d3' : ¬ (j : Int) < 2 * (h : Int) := by omega
                          clear hz2 hfu hpn
                          go_wp2
                          go_roundw
                          case rel => exact ⟨j + 1, by omega, by go_num, by trivial⟩
                          case measure => simp [intOf]; omega
                  · have hjn : ¬ (j : Int) < (N : Int) := by omega
                    have hjn2 : decide ((j : Int) < (N : Int)) = false := decide_eq_false hjn
                    obtain ⟨pt, hpt⟩ : ∃ q, q = pn t := ⟨_, rfl⟩
                    have hpe : pt = (t.length + 63) / 64 := hpt
                    have h5k := HLN.out
                    have hu1 : IntKind.i64.wrap ((t.length : Int) + 63) = (t.length : Int) + 63 := IntWalk.i64_in _ (by omega)
                    have hu3 : ((t.length : Int) + 63).tdiv 64 = (pt : Int) := by rw [Int.tdiv_eq_ediv_of_nonneg (by omega), hpe]; omega
                    have hu4 : ((t.length : Int) + 63) / 64 = (pt : Int) := by rw [hpe]; omega
                    have hu5 : IntKind.i64.wrap (1 + (pt : Int)) = 1 + (pt : Int) := IntWalk.i64_in _ (by omega)
                    have hu6 : IntKind.i64.wrap (pt : Int) = (pt : Int) := IntWalk.i64_in _ (by omega)
                    have HPT := Lib.hid hpt
                    clear hpt hpe h5k hj hlt
                    rcases HN1.out.2.2 with hev | hod
                    · skip
                      have n1 : decide (2 * (h : Int) < (N : Int)) = false := decide_eq_false (by omega)
                      have n1' : ¬ 2 * (h : Int) < (N : Int) := by omega
                      have hcn : C ≤ 1 + pt := by rw [HC.out, HPT.out]; have h1 := HH.out.count (fun l h1 => by rw [← HN.out, ← HHF.out] at h1; omega) N (by rw [HN.out]; exact Nat.le_refl _); omega
                      have c1 : decide ((C : Int) ≤ 1 + (pt : Int)) = true := decide_eq_true (by omega)
                      have c2 : (C : Int) ≤ 1 + (pt : Int) := by omega
                      clear hev hcn
                      go_wp2
                      go_ret
                      exact ⟨rfl, B10.out⟩
                    · obtain ⟨ad', Al1, cl1, sl, hAe, hb0, hl1, hc, hlc, hcm, hR⟩ := N10.out.secs.at_ (k := N - 1) (by rw [← HN.out]; omega)
                      injection hAe with hAe
                      subst hAe
                      have HL1 := Lib.hid hl1
                      have n1 : decide (2 * (h : Int) < (N : Int)) = true := decide_eq_true (by omega)
                      have n1' : 2 * (h : Int) < (N : Int) := by omega
                      obtain ⟨M, hM⟩ : ∃ M, M = N - 1 := ⟨_, rfl⟩
                      rw [← hM] at hc HL1
                      have hm0 : (0 : Int) ≤ (M : Int) := by omega
                      have hm1 : (M : Int) < (N : Int) := by omega
                      have hm2 : (N : Int) - 1 = (M : Int) := by omega
                      have hm3 : IntKind.i64.wrap ((N : Int) - 1) = (M : Int) := by rw [IntWalk.i64_in _ (by have := HN1.out; omega)]; exact hm2
                      have hm4 : IntKind.i64.wrap (M : Int) = (M : Int) := IntWalk.i64_in _ (by have := HN1.out; omega)
                      obtain ⟨S, hS⟩ : ∃ S : ByteArray, S = ⟨sl.toArray⟩ := ⟨_, rfl⟩
                      have kc : (convert 25 9 (.slice Al1 sl.length cl1)).run Tryd.prog wr = .ok (.string S) wr := by rw [hS]; exact conv_rd hR cl1
                      have HS := Lib.hid hS
                      have HM := Lib.hid hM
                      clear hl1 hb0 hcm hlc hR hS hM hod
                      by_cases hz2 : sl = zeros 64
                      · obtain rfl : S = S0 := by rw [HS.out, HZ.out, hz2]
                        have e1 : (S.toList != S.toList) = false := by simp
                        have e2 : (S.toList == S.toList) = true := by simp
                        have hcn : C ≤ 1 + pt := by rw [HC.out, HPT.out]; have h1 := HH.out.count (fun l _ h2 => by rw [← HN.out, ← HM.out, HL1.out] at h2; injection h2 with h2; rw [← h2, hz2]) N (by rw [HN.out]; exact Nat.le_refl _); omega
                        have c1 : decide ((C : Int) ≤ 1 + (pt : Int)) = true := decide_eq_true (by omega)
                        have c2 : (C : Int) ≤ 1 + (pt : Int) := by omega
                        clear hz2 hcn
                        go_wp2
                        go_ret
                        exact ⟨rfl, B10.out⟩
                      · obtain ⟨e1, e2⟩ := str_ne HS.out HZ.out hz2
                        clear hz2
                        go_wp2
                        go_ret
                        exact ⟨rfl, B10.out⟩
        · have HSV := Lib.hid (save_full hxck hf)
          clear hck hx hxck hxon hli hf hlen
          go_enter Tryd.func3, Tryd.ntmps3
          go_wp2_with (first
            | (go_at_call 12; refine (save_o HSV.out O4.out HXS.out HLI.out (rd_on HT.out B4.out) HTC.out HLN.out).mono ?_; rintro e w6 ⟨A6, c6, vs6, rfl, hO6, hB6⟩; have N6 := Lib.hid (DBox.new hO6); have B6 := Lib.hid (bel_al (o := .cells #[.slice A6 x.secs.length c6, .int .i64 x.left, .int .i64 x.torn, .bool x.off, .int .i64 x.done] 24) (keepB hB6 B4.out)); clear hO6 hB6; obtain ⟨q0, q1, q2, q3, q4⟩ := N6.out.cells; dsimp only)
            | (go_at_call 13; refine (on_r HX.out D3.out HSS.out).mono ?_; rintro e w4 ⟨A4, c4, vs4, rfl, hO4, hB4⟩; have O4 := Lib.hid hO4; have B4 := Lib.hid (keepB hB4 B3.out); clear hO4 hB4 q0 q1 q2 q3 q4; dsimp only [id])
            | (go_at_call 11; refine (chk_r HCK.out D2.out HSS.out).mono ?_; rintro e w3 ⟨rfl, hB3⟩; have D3 := Lib.hid (D2.out.after hB3); have B3 := Lib.hid (keepB hB3 B2.out); clear hB3 q0 q1 q2 q3 q4; obtain ⟨q0, q1, q2, q3, q4⟩ := D3.out.cells)
            | (go_at_call 10; refine (sml_r HSM.out D1.out).mono ?_; rintro e w2 ⟨rfl, hB2⟩; have D2 := Lib.hid (D1.out.after hB2); have B2 := Lib.hid (keepB hB2 B1.out); clear hB2 q0 q1 q2 q3 q4; obtain ⟨q0, q1, q2, q3, q4⟩ := D2.out.cells)
            | (go_at_call 9; refine (awake_any _).mono ?_; rintro e w1 ⟨rfl, hB1⟩; have D1 := Lib.hid (D0.out.after hB1); have B1 := Lib.hid (keepB hB1 B0.out); clear hB1 q0 q1 q2 q3 q4; obtain ⟨q0, q1, q2, q3, q4⟩ := D1.out.cells))
          go_ret
          exact ⟨rfl, B6.out⟩
    · have HSM := Lib.hid hsm
      have hn1 : (5000 : Int) < (t.length : Int) := by omega
      have hn2 : decide ((5000 : Int) < (t.length : Int)) = true := decide_eq_true hn1
      clear hsm hlen
      go_enter Tryd.func3, Tryd.ntmps3
      go_wp2_with (first
        | (go_at_call 9; refine (awake_any _).mono ?_; rintro e w1 ⟨rfl, hB1⟩; have D1 := Lib.hid (D0.out.after hB1); have B1 := Lib.hid (keepB hB1 B0.out); clear hB1 q0 q1 q2 q3 q4; obtain ⟨q0, q1, q2, q3, q4⟩ := D1.out.cells)
        | (go_at_call 10; refine (sml_r HSM.out D1.out).mono ?_; rintro e w2 ⟨rfl, hB2⟩))
      go_ret
      exact ⟨rfl, keepB hB2 B1.out⟩
end Go.Proofs.YtgeofnemlijbgaaDoor
