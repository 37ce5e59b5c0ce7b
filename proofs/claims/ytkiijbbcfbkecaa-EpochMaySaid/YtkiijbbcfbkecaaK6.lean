/- EpochMay, walked. -/
import Derived.Test.YtkiijbbcfbkecaaM5
import Derived.Test.YtkiijbbcfbkecaaK6a
import Derived.Test.YtkiijbbcfbkecaaM3
import Derived.Test.YtkiijbbcfbkecaaP7
import Derived.Test.YtkiijbbcfbkecaaH9
import Derived.Deep.CutBlock
import Derived.Deep.DeepCutAuto
import Derived.Outline
namespace Go.Proofs.Ytkiijbbcfbkecaa
open Go.RowKit
set_option linter.unusedVariables false

set_option maxRecDepth 100000 in
set_option maxHeartbeats 40000000 in
theorem may_walk (Al : Option Addr) (nl cl : Nat) (l : List Stp) (w : World) (hl : Stps w w.heap.size Al nl l) (hc1 : nl ≤ cl) (hc2 : cl ≤ maxLen) :
    Calls Try.prog 6 #[.slice Al nl cl] w fun e w' => e = .returned (.bool true) ∧ Below w.heap.size w w' := by
  have HL := Lib.hid hl
  unfold maxLen at hc2
  clear hl
  go_enter Try.func6, Try.ntmps6
  go_wp2_with (go_at_call 9; refine (awake_any _).mono ?_; rintro e w1 ⟨rfl, hB1⟩)
  have hd : OBox (w1.alloc (.cells zbk 25)) w1.heap.size w.heap.size none 0 [] aB0 := OBox.nil w1 w.heap.size
  have hB : Below w.heap.size w (w1.alloc (.cells zbk 25)) := bel_alloc hB1
  have hbb := hB1.size
  clear hB1
  generalize (w1.alloc (.cells zbk 25)) = W at hd hB ⊢
  generalize w1.heap.size = bb at hd hbb ⊢
  have D := Lib.hid hd
  have HB := Lib.hid hB
  clear hd hB
  go_loopw [5] (fun i wr => ∃ (j : Nat) (A : Option Addr) (c : Nat) (xs : List Value) (k : Bk), i = .int .i64 j ∧ j ≤ 40 ∧ j ≤ nl ∧ OBox wr bb w.heap.size A c xs k ∧ checkBk k = true ∧ Below w.heap.size w wr) (fun i _ => 40 - (intOf i).toNat)
  case atStart => exact ⟨0, none, 0, [], aB0, rfl, Nat.zero_le _, Nat.zero_le _, D.out, by decide, HB.out⟩
  case round =>
    obtain ⟨j, A, c, xs, k, rfl, hj40, hjn, hd, hck, hB⟩ := hrel
    have HC := Lib.hid hck
    have HBr := Lib.hid hB
    have D1 := Lib.hid hd
    clear hck hB hd D HB
    by_cases hlt : j < nl
    · by_cases h40 : j < 40
      · have hk0 : (0 : Int) ≤ (j : Int) := by omega
        have hk1 : (j : Int) < (nl : Int) := by omega
        have hk40 : decide ((j : Int) < 40) = true := decide_eq_true (by omega)
        obtain ⟨sb, so, s, sl, scl, sv, scv, rfl, hsb, hs, c1, c2, c3, c4, p1, p2, p3, r1, r2, r3⟩ := (HL.out.below HBr.out).at_ hlt
        obtain ⟨kk, lab, val, ver⟩ := s
        dsimp only at c1 c2 c3 c4 p1 p2 p3 r1 r2 r3
        have hkk : kk.toNat < 256 := UInt8.toNat_lt kk
        have hsz0 : w.heap.size ≤ wr.heap.size := HBr.out.size
        have P3 := Lib.hid (p3.more hsz0)
        have R3 := Lib.hid (r3.more hsz0)
        generalize kk.toNat = kn at hkk c1
        clear hs p3 r3
        by_cases h1 : lab.length ≤ 300
        · have h1b : decide ((300 : Int) < (lab.length : Int)) = false := decide_eq_false (by omega)
          have h1c : decide (300 < lab.length) = false := decide_eq_false (by omega)
          by_cases h2 : val.length ≤ 300
          · have h2b : decide ((300 : Int) < (val.length : Int)) = false := decide_eq_false (by omega)
            have h2c : decide (300 < val.length) = false := decide_eq_false (by omega)
            have d2 := D1.out.alloc (.cells #[.int .u8 (kn : Int), .slice sl lab.length scl, .slice sv val.length scv, .int .i64 ver] 47)
            have bs : Blk (wr.alloc (.cells #[.int .u8 (kn : Int), .slice sl lab.length scl, .slice sv val.length scv, .int .i64 ver] 47)) wr.heap.size 47 #[.int .u8 (kn : Int), .slice sl lab.length scl, .slice sv val.length scv, .int .i64 ver] := Blk.new wr _ _
            have cs := bs.cell
            have q0 := d2.blk.cell
            go_upto_block 2 with (fail)
            have hdW := d2.alloc (.cells #[.slice A k.ents.length c, .int .i64 k.eps] 25)
            have heW : OBox ((wr.alloc (.cells #[.int .u8 (kn : Int), .slice sl lab.length scl, .slice sv val.length scv, .int .i64 ver] 47)).alloc (.cells #[.slice A k.ents.length c, .int .i64 k.eps] 25)) (wr.heap.size + 1) w.heap.size A c xs k := ⟨by simpa using Blk.new (wr.alloc (.cells #[.int .u8 (kn : Int), .slice sl lab.length scl, .slice sv val.length scv, .int .i64 ver] 47)) 25 #[.slice A k.ents.length c, .int .i64 k.eps], hdW.own⟩
            have hsW := bs.alloc (.cells #[.slice A k.ents.length c, .int .i64 k.eps] 25)
            have hW : Below wr.heap.size wr ((wr.alloc (.cells #[.int .u8 (kn : Int), .slice sl lab.length scl, .slice sv val.length scv, .int .i64 ver] 47)).alloc (.cells #[.slice A k.ents.length c, .int .i64 k.eps] 25)) := bel_alloc (below_one wr _)
            have hbl : bb < wr.heap.size := D1.out.blk.lt
            generalize ((wr.alloc (.cells #[.int .u8 (kn : Int), .slice sl lab.length scl, .slice sv val.length scv, .int .i64 ver] 47)).alloc (.cells #[.slice A k.ents.length c, .int .i64 k.eps] 25)) = W2 at hdW heW hsW hW ⊢
            have PW := Lib.hid (rd_after P3.out hW)
            have RW := Lib.hid (rd_after R3.out hW)
            have HW := Lib.hid (keepB hW HBr.out)
            have DW := Lib.hid hdW
            have EW := Lib.hid heW
            have hWs : w.heap.size ≤ W2.heap.size := Nat.le_trans hsz0 hW.size
            have cS := hsW.cell
            have cD := hdW.blk.cell
            clear cs q0 d2 bs hdW heW hW c1 c2 c3 c4
            go_cut [8] (fun s8 wx => ∃ (e : Int) (A2 : Option Addr) (c2 : Nat) (xs2 : List Value) (k2 : Bk), s8 = .int .i64 e ∧ OBox wx (wr.heap.size + 1) w.heap.size A2 c2 xs2 k2 ∧ OBox wx bb w.heap.size A c xs k ∧ Kept k k2 e ∧ Below w.heap.size w wx)
            case first =>
              by_cases m0 : kn % 3 = 0
              · have t0 : ((kn : Int) % 3 == 0) = true := by rw [beq_iff_eq]; omega
                go_wp2_with (go_at_call 19; refine (publish_any A c k sl scl lab sv scv val _ DW.out.own.ents DW.out.box.cap DW.out.box.cm (sm_check HC.out) PW.out RW.out (by omega) (by omega)).mono ?_; rintro e w5 ⟨A5, c5, xs5, rfl, hO5, hB5⟩; have e5 := EW.out.after hB5; have c5e := e5.blk.cell; have f5e := e5.blk.frozen)
                go_meet
                exact ⟨_, A5, c5, xs5, _, rfl, OBox.store e5.blk hO5 hWs, (DW.out.after hB5).far e5.blk (by omega) _ _, kept_pub HC.out lab val, bel_set (bel_set (keepB hB5 HW.out) (by omega)) (by omega)⟩
              · have t0 : ((kn : Int) % 3 == 0) = false := by rw [beq_eq_false_iff_ne]; omega
                by_cases m1 : kn % 3 = 1
                · have t1 : ((kn : Int) % 3 == 1) = true := by rw [beq_iff_eq]; omega
                  go_wp2_with (go_at_call 21; refine (tick_any A c k _ DW.out.own.ents DW.out.box.cap DW.out.box.cm (sm_check HC.out)).mono ?_; rintro e w5 ⟨A5, c5, xs5, A6, c6, rfl, hO5, hp5, hB5⟩; have e5 := EW.out.after hB5; have c5e := fun o => (e5.alloc o).blk.cell; have f5e := fun o => (e5.alloc o).blk.frozen)
                  go_meet
                  exact ⟨_, A5, c5, xs5, _, rfl, OBox.store (e5.alloc _).blk (hO5.alloc _) hWs, ((DW.out.after hB5).alloc _).far (e5.alloc _).blk (by omega) _ _, kept_tick HC.out, bel_set (bel_set (bel_alloc (keepB hB5 HW.out)) (by omega)) (by omega)⟩
                · have t1 : ((kn : Int) % 3 == 1) = false := by rw [beq_eq_false_iff_ne]; omega
                  have t2 : ((kn : Int) % 3 == 2) = true := by rw [beq_iff_eq]; omega
                  go_wp2_with (go_at_call 23; refine (erase_any A c k sl scl lab ver _ DW.out.own.ents DW.out.box.cap DW.out.box.cm (sm_check HC.out) PW.out).mono ?_; rintro e w5 ⟨A5, c5, xs5, rfl, hO5, hB5⟩; have e5 := EW.out.after hB5; have c5e := e5.blk.cell; have f5e := e5.blk.frozen)
                  go_meet
                  exact ⟨_, A5, c5, xs5, _, rfl, OBox.store e5.blk hO5 hWs, (DW.out.after hB5).far e5.blk (by omega) _ _, kept_era HC.out lab ver, bel_set (bel_set (keepB hB5 HW.out) (by omega)) (by omega)⟩
            case rest =>
              obtain ⟨e, A2, c2, xs2, k2, rfl, he, hd, hkp, hB2⟩ := hcut
              have E2 := Lib.hid he
              have D2 := Lib.hid hd
              have HK := Lib.hid hkp
              have HB2 := Lib.hid hB2
              have hln := hkp.le
              have hgn := hkp.ge
              have hk72 : k.ents.length ≤ 72 := ((check_fits k).1 HC.out).1.2.2
              have l1 : decide ((k2.ents.length : Int) < (k.ents.length : Int)) = false := decide_eq_false (by omega)
              have l2 : decide (k2.ents.length < k.ents.length) = false := decide_eq_false (by omega)
              have l3 : decide ((k.ents.length : Int) + 1 < (k2.ents.length : Int)) = false := decide_eq_false (by omega)
              have hk0' : (0 : Int) ≤ (k.ents.length : Int) := by omega
              have hk1' : (k.ents.length : Int) ≤ 72 := by omega
              have cE := he.blk.cell
              have cD2 := hd.blk.cell
              clear he hd hkp hB2 cD cS hsW DW EW HW PW RW
              have key : ∀ bS : Bool, (bS = false → k ≠ k2) → e ≠ 0 → bS = true := by
                intro bS h1 h2
                cases bS
                · exact absurd (HK.out.err h2).symm (h1 rfl)
                · rfl
              have KEY := Lib.hid key
              clear key
              obtain ⟨W5, hW5⟩ : ∃ W5, W5 = wc := ⟨_, rfl⟩
              rw [← hW5] at E2 D2 HB2 cE cD2 ⊢
              clear hW5
              go_upto_region 20 with (fail)
              go_cut [12] (fun s12 wx => ∃ bS : Bool, s12 = .bool bS ∧ (e ≠ 0 → bS = true) ∧ Below W5.heap.size W5 wx)
              case first =>
                go_wp2_with (go_at_call 25; refine (rsame_any A A2 c c2 k k2 _ D2.out.own.ents E2.out.own.ents D2.out.box.cap D2.out.box.cm E2.out.box.cap E2.out.box.cm).mono ?_; rintro e' w7 ⟨bS, rfl, hbS, hB7⟩)
                go_meet
                exact ⟨bS, rfl, KEY.out bS hbS, hB7⟩
              case rest =>
                obtain ⟨bS, rfl, hbS, hB7⟩ := hcut
                have E7 := Lib.hid (E2.out.after hB7)
                have D7 := Lib.hid (D2.out.after hB7)
                have HB7 := Lib.hid (keepB hB7 HB2.out)
                clear cE cD2 hB7 E2 D2 HB2
                obtain ⟨W7, hW7⟩ : ∃ W7, W7 = wc := ⟨_, rfl⟩
                rw [← hW7] at E7 D7 HB7 ⊢
                clear hW7
                have ce7 := E7.out.blk.cell
                have cd7 := D7.out.blk.cell
                go_upto_region 21 with (fail)
                go_cut [111] (fun s111 wx => s111 = .bool false ∧ Below W7.heap.size W7 wx)
                case first =>
                  by_cases he0 : e = 0
                  · have n1 : (e != 0) = false := by rw [he0]; rfl
                    clear hbS he0
                    go_wp2_with (go_at_call 15; refine (check_any A2 c2 k2 _ E7.out.own.ents E7.out.box.cap E7.out.box.cm).mono ?_; rw [HK.out.ck]; simp only [errOf, if_true]; rintro e8 w8 ⟨rfl, hB8⟩; have ce8 := (E7.out.after hB8).blk.cell; have cd8 := (D7.out.after hB8).blk.cell)
                    go_meet
                    exact ⟨rfl, hB8⟩
                  · have n1 : (e != 0) = true := by rw [bne_iff_ne]; exact he0
                    have hbt := hbS he0
                    subst hbt
                    clear hbS he0
                    go_wp2_with (go_at_call 15; refine (check_any A2 c2 k2 _ E7.out.own.ents E7.out.box.cap E7.out.box.cm).mono ?_; rw [HK.out.ck]; simp only [errOf, if_true]; rintro e8 w8 ⟨rfl, hB8⟩; have ce8 := (E7.out.after hB8).blk.cell; have cd8 := (D7.out.after hB8).blk.cell)
                    go_meet
                    exact ⟨rfl, hB8⟩
                case rest =>
                  obtain ⟨rfl, hcut⟩ := hcut
                  have E8 := Lib.hid (E7.out.after hcut)
                  have D8 := Lib.hid (D7.out.after hcut)
                  have HB8 := Lib.hid (keepB hcut HB7.out)
                  clear ce7 cd7 hcut E7 D7 HB7
                  obtain ⟨W8, hW8⟩ : ∃ W8, W8 = wc := ⟨_, rfl⟩
                  rw [← hW8] at E8 D8 HB8 ⊢
                  clear hW8
                  (try clear P3); (try clear R3); (try clear D1); (try clear HBr); (try clear KEY); (try clear h1b); (try clear h1c); (try clear h2b); (try clear h2c); (try clear hkk); (try clear h1); (try clear h2); (try clear p1); (try clear p2); (try clear r1); (try clear r2); (try clear hk40); (try clear HL); (try clear hsb); (try clear l1); (try clear l2); (try clear l3)
                  go_wp2_with fail
                  go_loopw [13] (fun s13 wr => ∃ i : Nat, i ≤ k.ents.length ∧ s13 = .int .i64 i ∧ Below W8.heap.size W8 wr) (fun s13 _ => k.ents.length - (intOf s13).toNat)
                  case atStart => exact ⟨0, Nat.zero_le _, rfl, Below.refl _ _⟩
                  case round =>
                    obtain ⟨i, hi, rfl, hBq⟩ := hrel
                    have HBq := Lib.hid hBq
                    have dq := Lib.hid (D8.out.after hBq)
                    have eq := Lib.hid (E8.out.after hBq)
                    have q0 := dq.out.blk.cell
                    have q1 := eq.out.blk.cell
                    have q0a := fun o => (dq.out.blk.alloc o).cell
                    have q1a := fun o => (eq.out.blk.alloc o).cell
                    clear hBq
                    by_cases hil : i < k.ents.length
                    · have hk0 : (0 : Int) ≤ (i : Int) := by omega
                      have hk1 : (i : Int) < (k.ents.length : Int) := by omega
                      have hk2 : (i : Int) < (k2.ents.length : Int) := by omega
                      refine round_cps dq.out eq.out HK.out hil ?_ ?_ ?_ ?_ ?_ ?_
                      · intro xb xo yb yo nl nv mv cx cy ex ey Ax Ay Bx By ver ep S1 S3 hez F
                        have hA := F.hA
                        have hA2 := F.hA2
                        have hb := F.hb
                        have hb' := F.hb'
                        have r1 := F.c1
                        have r2 := F.c2
                        have r3 := F.c3
                        have r4 := F.c4
                        have r5 := F.c5
                        have ka0 := F.ka0
                        have ka1 := F.ka1
                        have ka2 := F.ka2
                        have ka3 := F.ka3
                        have ka4 := F.ka4
                        have v1 := F.v1
                        have v2 := F.v2
                        have v3 := F.v3
                        have v4 := F.v4 rfl
                        have w1' : (S1.toList == S1.toList) = true := by simp
                        have w3' : (S3.toList == S3.toList) = true := by simp
                        have w5' : (ver == ver) = true := by simp
                        have w6' : (ep == ep) = true := by simp
                        clear F dq eq HK D8 E8
                        go_wp2
                        go_roundw
                        case rel => exact ⟨i + 1, by omega, by go_num, bel_alloc (bel_alloc HBq.out)⟩
                        case measure => simp [intOf]; omega
                      · intro xb xo yb yo nl nv mv cx cy ex ey Ax Ay Bx By ver ep S1 S3 hez F
                        have hA := F.hA
                        have hA2 := F.hA2
                        have hb := F.hb
                        have hb' := F.hb'
                        have r1 := F.c1
                        have r2 := F.c2
                        have r3 := F.c3
                        have r4 := F.c4
                        have r5 := F.c5
                        have ka0 := F.ka0
                        have ka1 := F.ka1
                        have ka2 := F.ka2
                        have ka3 := F.ka3
                        have ka4 := F.ka4
                        have v1 := F.v1
                        have v2 := F.v2
                        have v3 := F.v3
                        have w1' : (S1.toList == S1.toList) = true := by simp
                        have w3' : (S3.toList == S3.toList) = true := by simp
                        have w5' : (ver == ver) = true := by simp
                        have w6' : (ep == ep) = true := by simp
                        clear F dq eq HK D8 E8
                        go_wp2
                        go_roundw
                        case rel => exact ⟨i + 1, by omega, by go_num, bel_alloc (bel_alloc HBq.out)⟩
                        case measure => simp [intOf]; omega
                      · intro xb xo yb yo nl nv mv cx cy ex ey Ax Ay Bx By ver ep S1 S3 hez F
                        have hA := F.hA
                        have hA2 := F.hA2
                        have hb := F.hb
                        have hb' := F.hb'
                        have r1 := F.c1
                        have r2 := F.c2
                        have r3 := F.c3
                        have r4 := F.c4
                        have r5 := F.c5
                        have ka0 := F.ka0
                        have ka1 := F.ka1
                        have ka2 := F.ka2
                        have ka3 := F.ka3
                        have ka4 := F.ka4
                        have v1 := F.v1
                        have v2 := F.v2
                        have v3 := F.v3
                        have w1' : (S1.toList == S1.toList) = true := by simp
                        have w3' : (S3.toList == S3.toList) = true := by simp
                        have w5' : (ver == ver) = true := by simp
                        have w6' : (ep == ep) = true := by simp
                        clear F dq eq HK D8 E8
                        go_wp2
                        go_roundw
                        case rel => exact ⟨i + 1, by omega, by go_num, bel_alloc (bel_alloc HBq.out)⟩
                        case measure => simp [intOf]; omega
                      · intro xb xo yb yo nl nv mv cx cy ex ey Ax Ay Bx By ver ep yp S1 S3 hez F
                        have hA := F.hA
                        have hA2 := F.hA2
                        have hb := F.hb
                        have hb' := F.hb'
                        have r1 := F.c1
                        have r2 := F.c2
                        have r3 := F.c3
                        have r4 := F.c4
                        have r5 := F.c5
                        have ka0 := F.ka0
                        have ka1 := F.ka1
                        have ka2 := F.ka2
                        have ka3 := F.ka3
                        have ka4 := F.ka4
                        have v1 := F.v1
                        have v2 := F.v2
                        have v3 := F.v3
                        have v4 := F.v4 rfl
                        have w1' : (S1.toList == S1.toList) = true := by simp
                        have w3' : (S3.toList == S3.toList) = true := by simp
                        have w5' : (ver == ver) = true := by simp
                        clear F dq eq HK D8 E8
                        go_wp2
                        go_roundw
                        case rel => exact ⟨i + 1, by omega, by go_num, bel_alloc (bel_alloc HBq.out)⟩
                        case measure => simp [intOf]; omega
                      · intro xb xo yb yo nl nv mv cx cy ex ey Ax Ay Bx By ver ep yp S1 S3 hez F
                        have hA := F.hA
                        have hA2 := F.hA2
                        have hb := F.hb
                        have hb' := F.hb'
                        have r1 := F.c1
                        have r2 := F.c2
                        have r3 := F.c3
                        have r4 := F.c4
                        have r5 := F.c5
                        have ka0 := F.ka0
                        have ka1 := F.ka1
                        have ka2 := F.ka2
                        have ka3 := F.ka3
                        have ka4 := F.ka4
                        have v1 := F.v1
                        have v2 := F.v2
                        have v3 := F.v3
                        have w1' : (S1.toList == S1.toList) = true := by simp
                        have w3' : (S3.toList == S3.toList) = true := by simp
                        have w5' : (ver == ver) = true := by simp
                        clear F dq eq HK D8 E8
                        go_wp2
                        go_roundw
                        case rel => exact ⟨i + 1, by omega, by go_num, bel_alloc (bel_alloc HBq.out)⟩
                        case measure => simp [intOf]; omega
                      · intro xb xo yb yo nl nv mv cx cy ex ey Ax Ay Bx By ver ep yp S1 S3 hez F
                        have hA := F.hA
                        have hA2 := F.hA2
                        have hb := F.hb
                        have hb' := F.hb'
                        have r1 := F.c1
                        have r2 := F.c2
                        have r3 := F.c3
                        have r4 := F.c4
                        have r5 := F.c5
                        have ka0 := F.ka0
                        have ka1 := F.ka1
                        have ka2 := F.ka2
                        have ka3 := F.ka3
                        have ka4 := F.ka4
                        have v1 := F.v1
                        have v2 := F.v2
                        have v3 := F.v3
                        have w1' : (S1.toList == S1.toList) = true := by simp
                        have w3' : (S3.toList == S3.toList) = true := by simp
                        have w5' : (ver == ver) = true := by simp
                        clear F dq eq HK D8 E8
                        go_wp2
                        go_roundw
                        case rel => exact ⟨i + 1, by omega, by go_num, bel_alloc (bel_alloc HBq.out)⟩
                        case measure => simp [intOf]; omega
                    · have hin : ¬ (i : Int) < (k.ents.length : Int) := by omega
                      have fD := dq.out.blk.frozen
                      go_wp2
                      go_roundw
                      case rel => exact ⟨j + 1, A2, c2, xs2, k2, by go_num, by omega, by omega, OBox.store dq.out.blk eq.out.own (Nat.le_refl _), HK.out.ck, bel_set (bel_set (keepB HBq.out HB8.out) hbb) hbb⟩
                      case measure => simp [intOf]; omega
          · have h2b : decide ((300 : Int) < (val.length : Int)) = true := decide_eq_true (by omega)
            have h2c : decide (300 < val.length) = true := decide_eq_true (by omega)
            have bs : Blk (wr.alloc (.cells #[.int .u8 (kn : Int), .slice sl lab.length scl, .slice sv val.length scv, .int .i64 ver] 47)) wr.heap.size 47 #[.int .u8 (kn : Int), .slice sl lab.length scl, .slice sv val.length scv, .int .i64 ver] := Blk.new wr _ _
            have cs := bs.cell
            go_wp2
            go_ret
            exact ⟨rfl, bel_alloc HBr.out⟩
        · have h1b : decide ((300 : Int) < (lab.length : Int)) = true := decide_eq_true (by omega)
          have h1c : decide (300 < lab.length) = true := decide_eq_true (by omega)
          go_wp2
          go_ret
          exact ⟨rfl, bel_alloc HBr.out⟩
      · have hk40 : decide ((j : Int) < 40) = false := decide_eq_false (by omega)
        go_wp2
        go_ret
        exact ⟨rfl, HBr.out⟩
    · have hjn' : decide ((j : Int) < (nl : Int)) = false := decide_eq_false (by omega)
      go_wp2
      go_ret
      exact ⟨rfl, HBr.out⟩
end Go.Proofs.Ytkiijbbcfbkecaa
