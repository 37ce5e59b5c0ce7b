/- VaultBack: the walk. -/
import Derived.Test.YtgeofnemlijbgaaDoorVO0
namespace Go.Proofs.YtgeofnemlijbgaaDoor
open Go.RowKit
set_option linter.unusedVariables false
set_option linter.unusedSimpArgs false

set_option maxRecDepth 100000 in
set_option maxHeartbeats 8000000 in
theorem back_walk (A : Option Addr) (c : Nat) (d : Dsk) (v : Value) (t : List UInt8) (w : World) (hd : Bss w w.heap.size A d.secs.length d.secs) (h1 : d.secs.length ≤ c) (h2 : c ≤ maxLen) (hv : Bs w w.heap.size v t) :
    Calls Tryd.prog 7 #[dvD A c d, v] w fun e w' => e = .returned (.bool true) ∧ Below w.heap.size w w' := by
  obtain ⟨At, ct, rfl, htc, htm, ht⟩ := hv
  have D0 := Lib.hid (DBox.arg hd h1 h2)
  have B0 := Lib.hid (below_one w (.cells #[.slice A d.secs.length c, .int .i64 d.left, .int .i64 d.torn, .bool d.off, .int .i64 d.done] 24))
  have HT := Lib.hid ht
  have HTC := Lib.hid htc
  obtain ⟨q0, q1, q2, q3, q4⟩ := D0.out.cells
  clear hd h1 h2 ht htc htm
  cases hsm : smallB d.secs
  · have HSM := Lib.hid hsm
    clear hsm
    go_enter Tryd.func7, Tryd.ntmps7
    go_wp2_with (first
      | (go_at_call 9; refine (awake_any _).mono ?_; rintro e w1 ⟨rfl, hB1⟩; have D1 := Lib.hid (D0.out.after hB1); have B1 := Lib.hid (keepB hB1 B0.out); clear hB1 q0 q1 q2 q3 q4; obtain ⟨q0, q1, q2, q3, q4⟩ := D1.out.cells)
      | (go_at_call 10; refine (sml_r HSM.out D1.out).mono ?_; rintro e w2 ⟨rfl, hB2⟩))
    go_ret
    exact ⟨rfl, keepB hB2 B1.out⟩
  · by_cases hlen : t.length ≤ 5000
    · have hSm := small_sm hsm
      have HSM := Lib.hid hsm
      have HSS := Lib.hid hSm
      have HLN := Lib.hid hlen
      have hn1 : ¬ (5000 : Int) < (t.length : Int) := by omega
      have hn2 : decide ((5000 : Int) < (t.length : Int)) = false := decide_eq_false hn1
      clear hsm hSm
      cases hck : checkB d.secs
      · have HCK := Lib.hid hck
        clear hck
        go_enter Tryd.func7, Tryd.ntmps7
        go_wp2_with (first
          | (go_at_call 9; refine (awake_any _).mono ?_; rintro e w1 ⟨rfl, hB1⟩; have D1 := Lib.hid (D0.out.after hB1); have B1 := Lib.hid (keepB hB1 B0.out); clear hB1 q0 q1 q2 q3 q4; obtain ⟨q0, q1, q2, q3, q4⟩ := D1.out.cells)
          | (go_at_call 10; refine (sml_r HSM.out D1.out).mono ?_; rintro e w2 ⟨rfl, hB2⟩; have D2 := Lib.hid (D1.out.after hB2); have B2 := Lib.hid (keepB hB2 B1.out); clear hB2 q0 q1 q2 q3 q4; obtain ⟨q0, q1, q2, q3, q4⟩ := D2.out.cells)
          | (go_at_call 11; refine (chk_r HCK.out D2.out HSS.out).mono ?_; rintro e w3 ⟨rfl, hB3⟩))
        go_ret
        exact ⟨rfl, keepB hB3 B2.out⟩
      · have HCK := Lib.hid hck
        obtain ⟨x, hx⟩ : ∃ x, x = onD d := ⟨_, rfl⟩
        have hxck : checkB x.secs = true := by rw [hx]; exact hck
        have hxon : OnD x := by rw [hx]; exact ⟨rfl, rfl⟩
        have HXS := Lib.hid (sm_check hxck)
        have HX := Lib.hid hx.symm
        have hli : x.left ≤ 9223372036854775807 := by rw [hxon.2]; omega
        have HLI := Lib.hid hli
        obtain ⟨hnx, hle⟩ := load_next hxck
        obtain ⟨u, nn, ee, hld⟩ : ∃ u n e, loadD x = (u, n, e) := ⟨_, _, _, rfl⟩
        have HLD := Lib.hid hld
        rw [hld] at hnx hle
        dsimp only at hnx hle
        cases hf : fullD x t
        · obtain ⟨s1, s2, s3, s4, s5⟩ := save_has hxck hxon hf
          have hnum := (full_num hf).1
          obtain ⟨a, n, rfl, rfl⟩ : ∃ a n, a = (saveD x t).1 ∧ n = (tgtD x).2 := ⟨_, _, rfl, rfl⟩
          have HSV : Hid (saveD x t = ((saveD x t).1, 0)) := Lib.hid (Prod.ext rfl s1)
          have HL2 := Lib.hid s2.load
          have HR2 := Lib.hid s2.rec_
          have HAS := Lib.hid (sm_check s2.ck)
          generalize (saveD x t).1 = a at HSV HL2 HR2 HAS
          obtain ⟨n, hn⟩ : ∃ n, n = (tgtD x).2 := ⟨_, rfl⟩
          rw [← hn] at hnx HL2 HR2 hnum
          obtain ⟨S, hS⟩ : ∃ S : ByteArray, S = ⟨t.toArray⟩ := ⟨_, rfl⟩
          have HS := Lib.hid hS
          have CV : Hid (∀ (w' : World) (B : Nat) (A' : Option Addr) (c' : Nat), Rd w' B A' t.length (bvs t) → (convert 25 9 (.slice A' t.length c')).run Tryd.prog w' = .ok (.string S) w') := Lib.hid (fun w' B A' c' h => by rw [hS]; exact conv_rd h c')
          clear hck hx hxck hxon hli hld hf s1 s2 s3 s4 s5 hn hS hlen
          rcases hle with rfl | rfl
          · have hn1 : nn + 1 = (n : Int) := by rw [hnx, if_pos rfl]
            have hw : IntKind.i64.wrap (nn + 1) = (n : Int) := by rw [IntWalk.i64_in _ (by omega)]; exact hn1
            clear hnx
            go_enter Tryd.func7, Tryd.ntmps7
            go_wp2_with (first
              | (go_at_call 27; refine (rec_r HR2.out N7.out HAS.out).mono ?_; rintro e w8 ⟨A8, c8, vs8, A9, c9, rfl, hO8, _, _, k3, hB8⟩; have M8 := Lib.hid (DBox.new hO8); have al := below_one w8 (.cells #[.slice A8 a.secs.length c8, .int .i64 a.left, .int .i64 a.torn, .bool a.off, .int .i64 a.done] 24); have N8 := Lib.hid ((N7.out.after hB8).after al); have B8 := Lib.hid (keepB al (keepB hB8 B7.out)); have R8 := Lib.hid (rd_on (rd_on R7.out hB8) al); have U8 := Lib.hid (rd_on k3 al); clear k3 hO8 hB8 al r0 r1 r2 r3 r4; obtain ⟨r0, r1, r2, r3, r4⟩ := N8.out.cells; obtain ⟨q0, q1, q2, q3, q4⟩ := M8.out.cells; dsimp only)
              | (go_at_call 29; refine (same_r N8.out M8.out HAS.out).mono ?_; rintro e w9 ⟨rfl, hB9⟩; have B9 := Lib.hid (keepB hB9 B8.out); have kc1 := CV.out w9 _ A7 c7 (rd_on R8.out hB9); have kc2 := CV.out w9 _ At ct (rd_on HT.out B9.out); have kc3 := CV.out w9 _ A9 c9 (rd_on U8.out hB9); clear hB9)
              | (go_at_call 18; have _t := N6; refine (load_r HL2.out N6.out HAS.out).mono ?_; rintro e w7 ⟨A7, c7, rfl, _, _, k3, hB7, _⟩; have R7 := Lib.hid k3; have N7 := Lib.hid (N6.out.after hB7); have B7 := Lib.hid (keepB hB7 B6.out); clear k3 hB7 q0 q1 q2 q3 q4 r0 r1 r2 r3 r4; obtain ⟨r0, r1, r2, r3, r4⟩ := N7.out.cells; dsimp only)
              | (go_at_call 12; refine (save_r HSV.out D5.out HXS.out HLI.out (rd_on HT.out B5.out) HTC.out HLN.out).mono ?_; rintro e w6 ⟨A6, c6, vs6, rfl, hO6, hB6⟩; have N6 := Lib.hid (DBox.new hO6); have D6 := Lib.hid ((D5.out.after hB6).alloc (.cells #[.slice A6 a.secs.length c6, .int .i64 a.left, .int .i64 a.torn, .bool a.off, .int .i64 a.done] 24)); have B6 := Lib.hid (bel_al (o := .cells #[.slice A6 a.secs.length c6, .int .i64 a.left, .int .i64 a.torn, .bool a.off, .int .i64 a.done] 24) (keepB hB6 B5.out)); clear hO6 hB6 q0 q1 q2 q3 q4; obtain ⟨q0, q1, q2, q3, q4⟩ := D6.out.cells; obtain ⟨r0, r1, r2, r3, r4⟩ := N6.out.cells; dsimp only)
              | (go_at_call 18; refine (load_r HLD.out D4.out HXS.out).mono ?_; rintro e w5 ⟨A5, c5, rfl, _, _, _, hB5, _⟩; have D5 := Lib.hid (D4.out.after hB5); have B5 := Lib.hid (keepB hB5 B4.out); clear hB5 z1 z2 q0 q1 q2 q3 q4; obtain ⟨q0, q1, q2, q3, q4⟩ := D5.out.cells; dsimp only)
              | (go_at_call 9; refine (awake_any _).mono ?_; rintro e w1 ⟨rfl, hB1⟩; have D1 := Lib.hid (D0.out.after hB1); have B1 := Lib.hid (keepB hB1 B0.out); clear hB1 q0 q1 q2 q3 q4; obtain ⟨q0, q1, q2, q3, q4⟩ := D1.out.cells)
              | (go_at_call 10; refine (sml_r HSM.out D1.out).mono ?_; rintro e w2 ⟨rfl, hB2⟩; have D2 := Lib.hid (D1.out.after hB2); have B2 := Lib.hid (keepB hB2 B1.out); clear hB2 q0 q1 q2 q3 q4; obtain ⟨q0, q1, q2, q3, q4⟩ := D2.out.cells)
              | (go_at_call 11; refine (chk_r HCK.out D2.out HSS.out).mono ?_; rintro e w3 ⟨rfl, hB3⟩; have D3 := Lib.hid (D2.out.after hB3); have B3 := Lib.hid (keepB hB3 B2.out); clear hB3 q0 q1 q2 q3 q4; obtain ⟨q0, q1, q2, q3, q4⟩ := D3.out.cells)
              | (go_at_call 13; refine (on_r HX.out D3.out HSS.out).mono ?_; rintro e w4 ⟨A4, c4, vs4, rfl, hO4, hB4⟩; obtain ⟨E4, D4'⟩ := beh_close (keepB hB4 B3.out) (D3.out.blk.below hB4 D3.out.blk.lt) (Nat.le_refl _) hO4; have D4 := Lib.hid D4'; have B4 := Lib.hid E4; have z1 := (D3.out.blk.below hB4 D3.out.blk.lt).cell; have z2 := (D3.out.blk.below hB4 D3.out.blk.lt).frozen; clear hO4 hB4 E4 D4' q0 q1 q2 q3 q4; obtain ⟨q0, q1, q2, q3, q4⟩ := D4.out.cells; dsimp only [id]))
            go_ret
            exact ⟨rfl, B9.out⟩
          · have hn1 : (n : Int) = 0 := by rw [hnx, if_neg (by decide)]; rfl
            clear hnx
            go_enter Tryd.func7, Tryd.ntmps7
            go_wp2_with (first
              | (go_at_call 27; refine (rec_r HR2.out N7.out HAS.out).mono ?_; rintro e w8 ⟨A8, c8, vs8, A9, c9, rfl, hO8, _, _, k3, hB8⟩; have M8 := Lib.hid (DBox.new hO8); have al := below_one w8 (.cells #[.slice A8 a.secs.length c8, .int .i64 a.left, .int .i64 a.torn, .bool a.off, .int .i64 a.done] 24); have N8 := Lib.hid ((N7.out.after hB8).after al); have B8 := Lib.hid (keepB al (keepB hB8 B7.out)); have R8 := Lib.hid (rd_on (rd_on R7.out hB8) al); have U8 := Lib.hid (rd_on k3 al); clear k3 hO8 hB8 al r0 r1 r2 r3 r4; obtain ⟨r0, r1, r2, r3, r4⟩ := N8.out.cells; obtain ⟨q0, q1, q2, q3, q4⟩ := M8.out.cells; dsimp only)
              | (go_at_call 29; refine (same_r N8.out M8.out HAS.out).mono ?_; rintro e w9 ⟨rfl, hB9⟩; have B9 := Lib.hid (keepB hB9 B8.out); have kc1 := CV.out w9 _ A7 c7 (rd_on R8.out hB9); have kc2 := CV.out w9 _ At ct (rd_on HT.out B9.out); have kc3 := CV.out w9 _ A9 c9 (rd_on U8.out hB9); clear hB9)
              | (go_at_call 18; have _t := N6; refine (load_r HL2.out N6.out HAS.out).mono ?_; rintro e w7 ⟨A7, c7, rfl, _, _, k3, hB7, _⟩; have R7 := Lib.hid k3; have N7 := Lib.hid (N6.out.after hB7); have B7 := Lib.hid (keepB hB7 B6.out); clear k3 hB7 q0 q1 q2 q3 q4 r0 r1 r2 r3 r4; obtain ⟨r0, r1, r2, r3, r4⟩ := N7.out.cells; dsimp only)
              | (go_at_call 12; refine (save_r HSV.out D5.out HXS.out HLI.out (rd_on HT.out B5.out) HTC.out HLN.out).mono ?_; rintro e w6 ⟨A6, c6, vs6, rfl, hO6, hB6⟩; have N6 := Lib.hid (DBox.new hO6); have D6 := Lib.hid ((D5.out.after hB6).alloc (.cells #[.slice A6 a.secs.length c6, .int .i64 a.left, .int .i64 a.torn, .bool a.off, .int .i64 a.done] 24)); have B6 := Lib.hid (bel_al (o := .cells #[.slice A6 a.secs.length c6, .int .i64 a.left, .int .i64 a.torn, .bool a.off, .int .i64 a.done] 24) (keepB hB6 B5.out)); clear hO6 hB6 q0 q1 q2 q3 q4; obtain ⟨q0, q1, q2, q3, q4⟩ := D6.out.cells; obtain ⟨r0, r1, r2, r3, r4⟩ := N6.out.cells; dsimp only)
              | (go_at_call 18; refine (load_r HLD.out D4.out HXS.out).mono ?_; rintro e w5 ⟨A5, c5, rfl, _, _, _, hB5, _⟩; have D5 := Lib.hid (D4.out.after hB5); have B5 := Lib.hid (keepB hB5 B4.out); clear hB5 z1 z2 q0 q1 q2 q3 q4; obtain ⟨q0, q1, q2, q3, q4⟩ := D5.out.cells; dsimp only)
              | (go_at_call 9; refine (awake_any _).mono ?_; rintro e w1 ⟨rfl, hB1⟩; have D1 := Lib.hid (D0.out.after hB1); have B1 := Lib.hid (keepB hB1 B0.out); clear hB1 q0 q1 q2 q3 q4; obtain ⟨q0, q1, q2, q3, q4⟩ := D1.out.cells)
              | (go_at_call 10; refine (sml_r HSM.out D1.out).mono ?_; rintro e w2 ⟨rfl, hB2⟩; have D2 := Lib.hid (D1.out.after hB2); have B2 := Lib.hid (keepB hB2 B1.out); clear hB2 q0 q1 q2 q3 q4; obtain ⟨q0, q1, q2, q3, q4⟩ := D2.out.cells)
              | (go_at_call 11; refine (chk_r HCK.out D2.out HSS.out).mono ?_; rintro e w3 ⟨rfl, hB3⟩; have D3 := Lib.hid (D2.out.after hB3); have B3 := Lib.hid (keepB hB3 B2.out); clear hB3 q0 q1 q2 q3 q4; obtain ⟨q0, q1, q2, q3, q4⟩ := D3.out.cells)
              | (go_at_call 13; refine (on_r HX.out D3.out HSS.out).mono ?_; rintro e w4 ⟨A4, c4, vs4, rfl, hO4, hB4⟩; obtain ⟨E4, D4'⟩ := beh_close (keepB hB4 B3.out) (D3.out.blk.below hB4 D3.out.blk.lt) (Nat.le_refl _) hO4; have D4 := Lib.hid D4'; have B4 := Lib.hid E4; have z1 := (D3.out.blk.below hB4 D3.out.blk.lt).cell; have z2 := (D3.out.blk.below hB4 D3.out.blk.lt).frozen; clear hO4 hB4 E4 D4' q0 q1 q2 q3 q4; obtain ⟨q0, q1, q2, q3, q4⟩ := D4.out.cells; dsimp only [id]))
            go_ret
            exact ⟨rfl, B9.out⟩
        · have HSV := Lib.hid (save_full hxck hf)
          clear hck hx hxck hxon hli hld hf hnx hle hlen
          go_enter Tryd.func7, Tryd.ntmps7
          go_wp2_with (first
            | (go_at_call 29; refine (same_r N6.out D6.out HXS.out).mono ?_; rintro e w7 ⟨rfl, hB7⟩; have B7 := Lib.hid (keepB hB7 B6.out); clear hB7)
            | (go_at_call 12; refine (save_r HSV.out D5.out HXS.out HLI.out (rd_on HT.out B5.out) HTC.out HLN.out).mono ?_; rintro e w6 ⟨A6, c6, vs6, rfl, hO6, hB6⟩; have N6 := Lib.hid (DBox.new hO6); have D6 := Lib.hid ((D5.out.after hB6).alloc (.cells #[.slice A6 x.secs.length c6, .int .i64 x.left, .int .i64 x.torn, .bool x.off, .int .i64 x.done] 24)); have B6 := Lib.hid (bel_al (o := .cells #[.slice A6 x.secs.length c6, .int .i64 x.left, .int .i64 x.torn, .bool x.off, .int .i64 x.done] 24) (keepB hB6 B5.out)); clear hO6 hB6 q0 q1 q2 q3 q4; obtain ⟨q0, q1, q2, q3, q4⟩ := D6.out.cells; obtain ⟨r0, r1, r2, r3, r4⟩ := N6.out.cells; dsimp only)
            | (go_at_call 18; refine (load_r HLD.out D4.out HXS.out).mono ?_; rintro e w5 ⟨A5, c5, rfl, _, _, _, hB5, _⟩; have D5 := Lib.hid (D4.out.after hB5); have B5 := Lib.hid (keepB hB5 B4.out); clear hB5 z1 z2 q0 q1 q2 q3 q4; obtain ⟨q0, q1, q2, q3, q4⟩ := D5.out.cells; dsimp only)
            | (go_at_call 9; refine (awake_any _).mono ?_; rintro e w1 ⟨rfl, hB1⟩; have D1 := Lib.hid (D0.out.after hB1); have B1 := Lib.hid (keepB hB1 B0.out); clear hB1 q0 q1 q2 q3 q4; obtain ⟨q0, q1, q2, q3, q4⟩ := D1.out.cells)
            | (go_at_call 10; refine (sml_r HSM.out D1.out).mono ?_; rintro e w2 ⟨rfl, hB2⟩; have D2 := Lib.hid (D1.out.after hB2); have B2 := Lib.hid (keepB hB2 B1.out); clear hB2 q0 q1 q2 q3 q4; obtain ⟨q0, q1, q2, q3, q4⟩ := D2.out.cells)
            | (go_at_call 11; refine (chk_r HCK.out D2.out HSS.out).mono ?_; rintro e w3 ⟨rfl, hB3⟩; have D3 := Lib.hid (D2.out.after hB3); have B3 := Lib.hid (keepB hB3 B2.out); clear hB3 q0 q1 q2 q3 q4; obtain ⟨q0, q1, q2, q3, q4⟩ := D3.out.cells)
            | (go_at_call 13; refine (on_r HX.out D3.out HSS.out).mono ?_; rintro e w4 ⟨A4, c4, vs4, rfl, hO4, hB4⟩; obtain ⟨E4, D4'⟩ := beh_close (keepB hB4 B3.out) (D3.out.blk.below hB4 D3.out.blk.lt) (Nat.le_refl _) hO4; have D4 := Lib.hid D4'; have B4 := Lib.hid E4; have z1 := (D3.out.blk.below hB4 D3.out.blk.lt).cell; have z2 := (D3.out.blk.below hB4 D3.out.blk.lt).frozen; clear hO4 hB4 E4 D4' q0 q1 q2 q3 q4; obtain ⟨q0, q1, q2, q3, q4⟩ := D4.out.cells; dsimp only [id]))
          go_ret
          exact ⟨rfl, B7.out⟩
    · have HSM := Lib.hid hsm
      have hn1 : (5000 : Int) < (t.length : Int) := by omega
      have hn2 : decide ((5000 : Int) < (t.length : Int)) = true := decide_eq_true hn1
      clear hsm hlen
      go_enter Tryd.func7, Tryd.ntmps7
      go_wp2_with (first
        | (go_at_call 9; refine (awake_any _).mono ?_; rintro e w1 ⟨rfl, hB1⟩; have D1 := Lib.hid (D0.out.after hB1); have B1 := Lib.hid (keepB hB1 B0.out); clear hB1 q0 q1 q2 q3 q4; obtain ⟨q0, q1, q2, q3, q4⟩ := D1.out.cells)
        | (go_at_call 10; refine (sml_r HSM.out D1.out).mono ?_; rintro e w2 ⟨rfl, hB2⟩))
      go_ret
      exact ⟨rfl, keepB hB2 B1.out⟩
end Go.Proofs.YtgeofnemlijbgaaDoor
