/- vault.Plan. -/
import Derived.Test.YtgeofnemlijbgaaDoorVJ
import Derived.Deep.DeepCutAuto
import Derived.Deep.CutBlock
namespace Go.Proofs.YtgeofnemlijbgaaDoor
open Go.RowKit Go.Shelf
set_option linter.unusedVariables false
set_option linter.unusedSimpArgs false
attribute [local go_sem] Oper.semAt_some

set_option maxRecDepth 100000 in
set_option maxHeartbeats 8000000 in
theorem plan_any (A : Option Addr) (c : Nat) (d : Dsk) (At : Option Addr) (ct : Nat) (t : List UInt8) (w : World) (hd : Bss w w.heap.size A d.secs.length d.secs) (h1 : d.secs.length ≤ c) (h2 : c ≤ maxLen) (hs : Sm d.secs)
    (ht : Rd w w.heap.size At t.length (bvs t)) (htc : t.length ≤ ct) (htl : t.length ≤ 100000) :
    Calls Tryd.prog 21 #[dvD A c d, .slice At t.length ct] w (WRet w (planD d t)) := by
  obtain ⟨i6, hi6, hz6, hs6, hb6⟩ := info_parts infoTW
  have hmk := run_make64
  have D0 := Lib.hid (DBox.arg hd h1 h2)
  have HDD := Lib.hid hd
  have HCC := Lib.hid (show d.secs.length ≤ c ∧ c ≤ maxLen from ⟨h1, h2⟩)
  have HT := Lib.hid ht
  have hml : d.secs.length ≤ maxLen := by have := hs.1; unfold maxLen; omega
  have HML := Lib.hid hml
  obtain ⟨q0, q1, q2, q3, q4⟩ := D0.out.cells
  clear hd h1 h2 hs hml ht
  cases hck : checkB d.secs
  · have hr : planD d t = ([], 1) := by unfold planD; rw [hck]; rfl
    rw [hr]
    have HCK := Lib.hid hck
    clear hr hck
    go_enter Tryd.func21, Tryd.ntmps21
    go_wp2_with (go_at_call 11; refine (check_any A d.secs.length c d.left d.torn d.off d.done d.secs _ D0.out.secs HML.out).mono ?_; rw [HCK.out]; rintro e w2 ⟨rfl, hB2⟩)
    go_ret2
    exact ⟨none, 0, [], rfl, OwnW.nil _ _, keepB hB2 (below_one w _)⟩
  · have HCK := Lib.hid hck
    have CHK : Hid (∀ w' : World, Bss w' w'.heap.size A d.secs.length d.secs → Calls Tryd.prog 11 #[dvD A c d] w' fun e w'' => e = .returned (.bool true) ∧ Below w'.heap.size w' w'') := Lib.hid (fun w' hb => (check_any A d.secs.length c d.left d.torn d.off d.done d.secs _ hb HML.out).mono (by rw [hck]; exact fun _ _ h => h))
    have hrm : roomN d.secs.length ≤ 1000000 ∧ 0 ≤ roomN d.secs.length := by have := halfN_rng d.secs.length; unfold roomN; omega
    obtain ⟨hr0, hr1⟩ := hrm
    obtain ⟨r, hre⟩ : ∃ r, r = roomN d.secs.length := ⟨_, rfl⟩
    have HRE := Lib.hid hre
    rw [← hre] at hr0 hr1
    cases hmax : maxD d
    · by_cases hlen : roomN d.secs.length < t.length
      · have hr : planD d t = ([], 180) := by unfold planD fullD; rw [hck, if_pos rfl, hmax]; simp [hlen]
        rw [hr]
        rw [← hre] at hlen
        clear hr hck hre
        go_enter Tryd.func21, Tryd.ntmps21
        go_upto_region 3 with (go_at_call 11; refine (CHK.out _ D0.out.secs).mono ?_; rintro e w2 ⟨rfl, hB2⟩; have D2 := Lib.hid (D0.out.after hB2); have HB2 := Lib.hid (keepB hB2 (below_one w _)); clear hB2 q0 q1 q2 q3 q4; obtain ⟨q0, q1, q2, q3, q4⟩ := D2.out.cells)
        iterate 11 go_step
        go_cut [6, 7] (fun s6 s7 wc => s6 = .int .i64 ((tgtD d).1 : Int) ∧ s7 = .int .i64 ((tgtD d).2 : Int) ∧ DBox wc w.heap.size A c d ∧ Below w.heap.size w wc)
        case first =>
          rcases hn : newestD d with _ | ⟨k, n, m⟩
          · have HN := Lib.hid hn
            have HTG := Lib.hid (show tgtD d = (0, 0) by unfold tgtD; rw [hn])
            clear hn
            go_wp2_with (go_at_call 34; refine (newest_any A c d _ D2.out.secs D2.out.cap D2.out.cm HCK.out).mono ?_; rw [HN.out]; simp only [txC, Option.isSome_none]; rintro e w3 ⟨rfl, hB3⟩; have D3 := Lib.hid ((D2.out.after hB3).alloc (.cells #[.int .i64 0, .int .i64 0, .int .i64 0] 53)); have HB3 := Lib.hid (bel_al (o := .cells #[.int .i64 0, .int .i64 0, .int .i64 0] 53) (keepB hB3 HB2.out)); clear hB3)
            go_meet
            exact ⟨by rw [HTG.out]; rfl, by rw [HTG.out]; rfl, D3.out, HB3.out⟩
          · have hmx : ¬ 4611686018427387903 ≤ n := by unfold maxD at hmax; rw [hn] at hmax; simpa using hmax
            have hk := (newest_le hn).1
            have hmx2 : ¬ (4611686018427387903 : Int) ≤ (n : Int) := by omega
            have hmx3 : decide ((4611686018427387903 : Int) ≤ (n : Int)) = false := decide_eq_false hmx2
            have HN := Lib.hid hn
            have HTG := Lib.hid (show tgtD d = (1 - k, n + 1) by unfold tgtD; rw [hn])
            obtain ⟨k1, hk1⟩ : ∃ k1, k1 = 1 - k := ⟨_, rfl⟩
            have hk1i : (1 : Int) - (k : Int) = (k1 : Int) := by omega
            have hw1 : IntKind.i64.wrap (1 - (k : Int)) = (k1 : Int) := by rw [IntWalk.i64_in _ (by omega)]; exact hk1i
            have hw2 : IntKind.i64.wrap ((n : Int) + 1) = (n : Int) + 1 := IntWalk.i64_in _ (by omega)
            rw [← hk1] at HTG
            clear hn hmx hk1
            go_wp2_with (go_at_call 34; refine (newest_any A c d _ D2.out.secs D2.out.cap D2.out.cm HCK.out).mono ?_; rw [HN.out]; simp only [txC, Option.isSome_some]; rintro e w3 ⟨rfl, hB3⟩; have D3 := Lib.hid ((D2.out.after hB3).alloc (.cells #[.int .i64 (k : Int), .int .i64 (n : Int), .int .i64 (m : Int)] 53)); have HB3 := Lib.hid (bel_al (o := .cells #[.int .i64 (k : Int), .int .i64 (n : Int), .int .i64 (m : Int)] 53) (keepB hB3 HB2.out)); clear hB3; have ct := (Blk.new w3 53 #[.int .i64 (k : Int), .int .i64 (n : Int), .int .i64 (m : Int)]).cell)
            go_quiet (fail)
            go_wp2
            go_meet
            exact ⟨by rw [HTG.out], by rw [HTG.out]; rfl, ⟨D3.out.blk, D3.out.secs, D3.out.cap, D3.out.cm⟩, below_drewN HB3.out nq⟩
        case rest =>
          obtain ⟨rfl, rfl, hD4, hB4⟩ := hcut
          obtain ⟨W4, hW4⟩ : ∃ W4, W4 = wc := ⟨_, rfl⟩
          rw [← hW4] at hD4 hB4 ⊢
          clear hW4
          have D4 := Lib.hid hD4
          have HB4 := Lib.hid hB4
          clear hD4 hB4 q0 q1 q2 q3 q4
          obtain ⟨q0, q1, q2, q3, q4⟩ := D4.out.cells
          have hl1 : (r : Int) < (t.length : Int) := hlen
          have hl2 : decide ((r : Int) < (t.length : Int)) = true := decide_eq_true hlen
          go_wp2_with (go_at_call 17; refine (room_any _ _).mono ?_; rw [← HRE.out]; rintro e w5 ⟨rfl, hB5⟩)
          go_ret2
          exact ⟨none, 0, [], rfl, OwnW.nil _ _, keepB hB5 HB4.out⟩
      · have hf : fullD d t = false := by unfold fullD; rw [hmax]; simp; omega
        have hr : planD d t = (plan0 d t ++ (scrubD (behindD d t)).1, 0) := by unfold planD; rw [hck, if_pos rfl, hf]; rfl
        rw [hr]
        rw [← hre] at hlen
        have HF := Lib.hid hf
        have hle := atD_le hck (tgtD d).1
        have HAR := Lib.hid (areaN_at hck (tgt_le d))
        have hln := (checkB_len hck).2
        have hnum := (full_num hf).1
        have hpn := pn_half hck (full_num hf).2
        clear hr hck hre hf
        refine (callsIn_wide (n := 5)).1 ?_
        refine callsIn_of_wp_marks Tryd.func21 rfl trivial ?_ rfl
        simp only [Tryd.ntmps21, List.size_toArray, List.length_cons, List.length_nil, Nat.reduceAdd, Nat.reduceSub, Array.replicate_succ, Array.replicate_zero, List.push_toArray, List.append_toArray, List.nil_append, List.cons_append]
        refine wpIn_wide.2 ?_
        go_upto_region 3 with (go_at_call 11; refine (CHK.out _ D0.out.secs).mono ?_; rintro e w2 ⟨rfl, hB2⟩; have D2 := Lib.hid (D0.out.after hB2); have HB2 := Lib.hid (keepB hB2 (below_one w _)); clear hB2 q0 q1 q2 q3 q4; obtain ⟨q0, q1, q2, q3, q4⟩ := D2.out.cells)
        iterate 11 go_step
        go_cut [6, 7] from 18 to 98 (fun s6 s7 wc => s6 = .int .i64 ((tgtD d).1 : Int) ∧ s7 = .int .i64 ((tgtD d).2 : Int) ∧ DBox wc w.heap.size A c d ∧ Below w.heap.size w wc)
        case first =>
          rcases hn : newestD d with _ | ⟨k, n, m⟩
          · have HN := Lib.hid hn
            have HTG := Lib.hid (show tgtD d = (0, 0) by unfold tgtD; rw [hn])
            clear hn
            go_wp2_with (go_at_call 34; refine (newest_any A c d _ D2.out.secs D2.out.cap D2.out.cm HCK.out).mono ?_; rw [HN.out]; simp only [txC, Option.isSome_none]; rintro e w3 ⟨rfl, hB3⟩; have D3 := Lib.hid ((D2.out.after hB3).alloc (.cells #[.int .i64 0, .int .i64 0, .int .i64 0] 53)); have HB3 := Lib.hid (bel_al (o := .cells #[.int .i64 0, .int .i64 0, .int .i64 0] 53) (keepB hB3 HB2.out)); clear hB3)
            go_meet
            exact ⟨by rw [HTG.out]; rfl, by rw [HTG.out]; rfl, D3.out, HB3.out⟩
          · have hmx : ¬ 4611686018427387903 ≤ n := by unfold maxD at hmax; rw [hn] at hmax; simpa using hmax
            have hk := (newest_le hn).1
            have hmx2 : ¬ (4611686018427387903 : Int) ≤ (n : Int) := by omega
            have hmx3 : decide ((4611686018427387903 : Int) ≤ (n : Int)) = false := decide_eq_false hmx2
            have HN := Lib.hid hn
            have HTG := Lib.hid (show tgtD d = (1 - k, n + 1) by unfold tgtD; rw [hn])
            obtain ⟨k1, hk1⟩ : ∃ k1, k1 = 1 - k := ⟨_, rfl⟩
            have hk1i : (1 : Int) - (k : Int) = (k1 : Int) := by omega
            have hw1 : IntKind.i64.wrap (1 - (k : Int)) = (k1 : Int) := by rw [IntWalk.i64_in _ (by omega)]; exact hk1i
            have hw2 : IntKind.i64.wrap ((n : Int) + 1) = (n : Int) + 1 := IntWalk.i64_in _ (by omega)
            rw [← hk1] at HTG
            clear hn hmx hk1
            go_wp2_with (go_at_call 34; refine (newest_any A c d _ D2.out.secs D2.out.cap D2.out.cm HCK.out).mono ?_; rw [HN.out]; simp only [txC, Option.isSome_some]; rintro e w3 ⟨rfl, hB3⟩; have D3 := Lib.hid ((D2.out.after hB3).alloc (.cells #[.int .i64 (k : Int), .int .i64 (n : Int), .int .i64 (m : Int)] 53)); have HB3 := Lib.hid (bel_al (o := .cells #[.int .i64 (k : Int), .int .i64 (n : Int), .int .i64 (m : Int)] 53) (keepB hB3 HB2.out)); clear hB3; have ct := (Blk.new w3 53 #[.int .i64 (k : Int), .int .i64 (n : Int), .int .i64 (m : Int)]).cell)
            go_quiet (fail)
            go_wp2
            go_meet
            exact ⟨by rw [HTG.out], by rw [HTG.out]; rfl, ⟨D3.out.blk, D3.out.secs, D3.out.cap, D3.out.cm⟩, below_drewN HB3.out nq⟩
        case rest =>
          obtain ⟨rfl, rfl, hD4, hB4⟩ := hcut
          obtain ⟨W4, hW4⟩ : ∃ W4, W4 = wc := ⟨_, rfl⟩
          rw [← hW4] at hD4 hB4 ⊢
          clear hW4
          have D4 := Lib.hid hD4
          have HB4 := Lib.hid hB4
          clear hD4 hB4 q0 q1 q2 q3 q4
          obtain ⟨q0, q1, q2, q3, q4⟩ := D4.out.cells
          have hl1 : ¬ (r : Int) < (t.length : Int) := by omega
          have hl2 : decide ((r : Int) < (t.length : Int)) = false := decide_eq_false hl1
          obtain ⟨k, hk⟩ : ∃ k, k = (tgtD d).1 := ⟨_, rfl⟩
          obtain ⟨n, hn⟩ : ∃ n, n = (tgtD d).2 := ⟨_, rfl⟩
          obtain ⟨a, ha⟩ : ∃ a, a = toD d := ⟨_, rfl⟩
          obtain ⟨h, hh⟩ : ∃ a, a = halfD d := ⟨_, rfl⟩
          have har : areaN d.secs.length k = ((a : Int), (h : Int)) := by rw [hk, ha, hh]; exact HAR.out
          have HAR2 := Lib.hid har
          rw [← hk, ← hn]
          have HK := Lib.hid hk
          have HN := Lib.hid hn
          have HA := Lib.hid ha
          have hah : a + h ≤ d.secs.length := by rw [ha, hh]; exact hle
          rw [← hn] at hnum
          rw [← hh] at hpn
          clear har hk hn ha hh HAR hle
          go_upto_region 12 with (first
            | (go_at_call 17; refine (room_any _ _).mono ?_; rw [← HRE.out]; rintro e w5 ⟨rfl, hB5⟩; have D5 := Lib.hid (D4.out.after hB5); have HB5 := Lib.hid (keepB hB5 HB4.out); clear hB5 q0 q1 q2 q3 q4; obtain ⟨q0, q1, q2, q3, q4⟩ := D5.out.cells)
            | (go_at_call 15; refine (area_any _ _ _).mono ?_; rw [HAR2.out]; rintro e w6 ⟨rfl, hB6⟩; have D6 := Lib.hid (D5.out.after hB6); have HB6 := Lib.hid (keepB hB6 HB5.out); clear hB6 q0 q1 q2 q3 q4; obtain ⟨q0, q1, q2, q3, q4⟩ := D6.out.cells))
          have D7 := Lib.hid (D6.out.alloc (.cells #[.int .i64 (a : Int)] 3))
          have HB7 := Lib.hid (bel_al (o := .cells #[.int .i64 (a : Int)] 3) HB6.out)
          have BA := Lib.hid (Blk.new w6 3 #[.int .i64 (a : Int)])
          obtain ⟨ga, hga⟩ : ∃ g, g = w6.heap.size := ⟨_, rfl⟩
          rw [← hga] at BA ⊢
          generalize (w6.alloc (.cells #[.int .i64 (a : Int)] 3)) = W7 at D7 HB7 BA ⊢
          clear q0 q1 q2 q3 q4 hga
          have qa := BA.out.cell
          have qa1 := fun o => (BA.out.alloc o).cell
          have qa2 := fun o o' => ((BA.out.alloc o).alloc o').cell
          have qa3 := fun o o' o'' => (((BA.out.alloc o).alloc o').alloc o'').cell
          go_cut [12] from 18 to 98 (fun s12 wc => ∃ g, s12 = .pointer (some ⟨g, 0, none⟩) ∧ W7.heap.size ≤ g ∧ PBox wc w.heap.size g [((a : Int), zeros 64)] ∧ Below W7.heap.size W7 wc)
          case first =>
            go_region
            · go_wp2
              go_meet
              exact ⟨_, rfl, by omega, plan_a W7 w.heap.size (a : Int) HB7.out.size, bel_dr (bel_al (bel_al (below_one _ _)))⟩
            · go_wp2
              go_meet
              exact ⟨_, rfl, by omega, plan_b W7 w.heap.size (a : Int) HB7.out.size, bel_dr (bel_al (bel_al (below_one _ _)))⟩
            · go_wp2
              go_meet
              exact ⟨_, rfl, by omega, plan_c W7 w.heap.size (a : Int) HB7.out.size, bel_dr (bel_al (bel_al (below_one _ _)))⟩
          case rest =>
            obtain ⟨gp, rfl, hgp, hP8, hB8⟩ := hcut
            obtain ⟨W8, hW8⟩ : ∃ W8, W8 = wc := ⟨_, rfl⟩
            rw [← hW8] at hP8 hB8 ⊢
            clear hW8 qa qa1 qa2 qa3 hmk
            have P8 := Lib.hid hP8
            have D8 := Lib.hid (D7.out.after hB8)
            have BA8 := Lib.hid (BA.out.below hB8 BA.out.lt)
            have HB8 := Lib.hid (keepB hB8 HB7.out)
            have hgw : w.heap.size ≤ gp := Nat.le_trans HB7.out.size hgp
            have hg78 := hB8.size
            have hga : ga < W7.heap.size := BA.out.lt
            have HT8 := Lib.hid (HT.out.below HB8.out)
            clear hP8 hB8
            go_wp2_with (go_at_call 41; refine (callsIn_wide.1 (pieces_in 5 At t.length ct _)).mono ?_; rintro e w9 ⟨rfl, rfl⟩)
            have BX := Lib.hid (Blk.new W8 25 #[.slice At t.length ct])
            have I9 : Hid (PlI w (W8.alloc (.cells #[.slice At t.length ct] 25)) gp ga W8.heap.size (W8.heap.size + 1) #[.slice A d.secs.length c, .int .i64 d.left, .int .i64 d.torn, .bool d.off, .int .i64 d.done] #[.int .i64 (a : Int)] #[.slice At t.length ct] (((a : Int), zeros 64) :: piecesW a t ([] : List (Nat × Nat)).length)) := Lib.hid ⟨P8.out.alloc _, D8.out.blk.alloc _, BA8.out.alloc _, BX.out, bel_al HB8.out, by simp⟩
            have HT9 := Lib.hid (HT.out.below (bel_al (o := .cells #[.slice At t.length ct] 25) HB8.out))
            obtain ⟨gx, hgx⟩ : ∃ g, g = W8.heap.size := ⟨_, rfl⟩
            have hgxw : w.heap.size ≤ gx := by rw [hgx]; exact HB8.out.size
            have hz9 : gx + 1 = (W8.alloc (.cells #[.slice At t.length ct] 25)).heap.size := by rw [hgx]; simp
            rw [← hgx] at BX I9 ⊢
            generalize (W8.alloc (.cells #[.slice At t.length ct] 25)) = W9 at BX I9 HT9 hz9 ⊢
            clear hgx D0 D2 D4 D5 D6 D7 D8 HB2 HB4 HB5 HB6 HB7 HB8 BA BA8 P8 HT8
            have hwW : w.heap.size ≤ W9.heap.size := by omega
            have hpnl : pn t ≤ 2048 := by omega
            refine wpIn_wide.1 (range_told (n := 5) (by omega) (gf := 53) (lb := #[.pointer (some ⟨gx, 0, none⟩)]) rfl (enters_of Tryd.func53 (by kernel_rfl) rfl)
              (pieces_told 4 (by omega) gx w.heap.size At ct t htl htc W9 hwW (BX.out.cell 0) BX.out.lt HT9.out)
              KpP.trans (fun W l o o' hl hw hc hk => kpp_turn (w := W9) hwW (by omega) W l o o' hl hw hc hk) (fun _ => rfl) (fun pre x W l o o' h1 h2 h3 => tp_turn pre x W l o o' h1 h2 h3)
              (fun pre W => PlI w W gp ga gx (gx + 1) #[.slice A d.secs.length c, .int .i64 d.left, .int .i64 d.torn, .bool d.off, .int .i64 d.done] #[.int .i64 (a : Int)] #[.slice At t.length ct] (((a : Int), zeros 64) :: piecesW a t pre.length))
              (fun s X Y row hs hg hr => hs.turned hg (fun r e => ⟨Nat.le_trans hwW (hr r e).1, (hr r e).2⟩))
              I9.out ?a1 ?assign ?body ?done)
            case assign =>
              intro l x W K hK
              gi_wp2
              exact hK
            case body =>
              rintro l pre ⟨j, g⟩ W hI ⟨hj1, hj2, hj3⟩
              dsimp only at hj1 hj2 hj3
              obtain ⟨A0, c0, xs, hlb, hO⟩ := hI.pb
              obtain ⟨L, hL⟩ : ∃ L, L = ((a : Int), zeros 64) :: piecesW a t pre.length := ⟨_, rfl⟩
              have hLl : L.length ≤ 5000 := by rw [hL, List.length_cons, piecesW_len]; omega
              rw [← hL] at hI hlb hO
              obtain ⟨X, hX⟩ : ∃ X : Int, X = ((a + 1 + j : Nat) : Int) := ⟨_, rfl⟩
              have hw1 : IntKind.i64.wrap ((a : Int) + 1) = (a : Int) + 1 := IntWalk.i64_in _ (by omega)
              have hw2 : IntKind.i64.wrap ((a : Int) + 1 + (j : Int)) = X := by rw [IntWalk.i64_in _ (by omega)]; omega
              have hw3 : (a : Int) + 1 + (j : Int) = X := by omega
              have hw4 : wrap64 X = X := by unfold wrap64; omega
              have OY := Lib.hid ((hO.alloc (.cells #[.int .i64 X, .slice (some ⟨g, 0, none⟩) 64 64] 60)).outer)
              have BY := Lib.hid (hlb.alloc (.cells #[.int .i64 X, .slice (some ⟨g, 0, none⟩) 64 64] 60))
              have RY := Lib.hid (own_rd2 W (.int .i64 X) (.slice (some ⟨g, 0, none⟩) 64 64) 60)
              have N1 := Lib.hid (show L.length + 1 ≤ maxLen by unfold maxLen; omega)
              have N2 := Lib.hid (show (L.length + 1) * 32 ≤ 140737488355328 by omega)
              have N3 := Lib.hid (show w.heap.size ≤ (W.alloc (.cells #[.int .i64 X, .slice (some ⟨g, 0, none⟩) 64 64] 60)).heap.size by have := hI.bel.size; simp; omega)
              have k0 := hlb.cell
              have k1 := hI.ab.cell
              have HI := Lib.hid hI
              have HL := Lib.hid hL
              have HO := Lib.hid hO
              have HLB := Lib.hid hlb
              have HX := Lib.hid hX
              have HJ1 := Lib.hid hj1
              have HJ3 := Lib.hid hj3
              clear hI hL hO hlb hX hj1 hj2 hj3
              gi_wp2_with (gi_at_builtin; refine wpListIn_append_any _ rfl (.tmp 59) (.tmp 66) 32 rfl w.heap.size 60 i6 (.agg #[.int .i64 0, .slice none 0 0]) 2 32 Tryd.underlying32 hi6 hz6 hs6 hb6 rfl (by omega) (.slice A0 L.length c0) L.length xs rfl OY.out _ (some ⟨W.heap.size, 0, none⟩) 1 1 [.int .i64 X, .slice (some ⟨g, 0, none⟩) 64 64] rfl RY.out (wr_one _ _ _ _) N1.out N2.out N3.out ?_; intro v9 w9 hown9 hgr9 hat9; obtain ⟨A9, c9, rfl, g1, g2⟩ := own_form hown9; have b9 := blk_far hgr9 BY.out OY.out (by decide); have cl9 := b9.cell; have fz9 := b9.frozen)
              obtain ⟨K1, K2, K3⟩ := PlI.next (x := (X, pieceL t j)) HI.out hgw HLB.out HO.out (by have e := pieceL_len t j; show W.ownsRow w.heap.size 5 1 _ (pieceL t j).length (bvs (pieceL t j)); rw [e]; exact HJ3.out) hown9 hgr9
              exact ⟨K1, K2, by dsimp only; rw [List.length_append, List.length_singleton, piecesW_succ, ← List.cons_append, ← HL.out]; rw [HX.out, HJ1.out] at K3; exact K3⟩
            case done =>
              rintro D ys W hD hys hI hKD
              rw [hys] at hI
              obtain ⟨A0, c0, xs, hlb, hO⟩ := hI.pb
              obtain ⟨L, hL⟩ : ∃ L, L = ((a : Int), zeros 64) :: piecesW a t (pn t) := ⟨_, rfl⟩
              have hLl : L.length ≤ 5000 := by rw [hL, List.length_cons, piecesW_len]; omega
              rw [← hL] at hlb hO
              have HI := Lib.hid hI
              have HL := Lib.hid hL
              have HO := Lib.hid hO
              have HLB := Lib.hid hlb
              have HKD := Lib.hid hKD
              have hDl := (Array.getElem?_eq_some_iff.1 hKD).1
              have HS : Hid (∀ w' : World, Below W.heap.size W w' → w'.cell? ⟨gp, 0, none⟩ = some (.slice A0 L.length c0) ∧ w'.cell? ⟨ga, 0, none⟩ = some (.int .i64 (a : Int))) := Lib.hid (fun w' h => ⟨(hlb.below h hlb.lt).cell 0, (hI.ab.below h hI.ab.lt).cell 0⟩)
              have hWs := hI.bel.size
              clear hI hL hO hlb hys hKD
              dsimp only
              go_upto_region 17 with (fail)
              have hB0 : Below W.heap.size W W.drew := bel_dr (Below.refl _ _)
              go_cut [] from 68 to 98 (fun wc => PBox wc w.heap.size gp (plan0 d t) ∧ Below w.heap.size W wc ∧ W.heap.size ≤ wc.heap.size ∧ Blk wc w.heap.size 24 #[.slice A d.secs.length c, .int .i64 d.left, .int .i64 d.torn, .bool d.off, .int .i64 d.done] ∧ wc.heap[D]? = some (.deferred (some [])))
              case first =>
                refine wp_calm ?_
                refine region_last (S := fun w' => w'.cell? ⟨gp, 0, none⟩ = some (.slice A0 L.length c0) ∧ w'.cell? ⟨ga, 0, none⟩ = some (.int .i64 (a : Int))) 9 (by kernel_rfl) (by kernel_rfl) (by kernel_rfl) (HS.out _ hB0) (fun hHeld => ?_)
                refine hw_t (i := 0) (d := some 68) (v := ?_) rfl rfl (by kernel_rfl) (by kernel_rfl) (by kernel_rfl) (fun _ _ _ h => h) (by rfl) ?_ (by assumption) ?_
                rotate_left
                · intro w' hSw
                  (try dsimp only at hSw)
                  go_split_ands
                  go_simp
                  try with_reducible rfl
                try simp only [Act.put, List.setIfInBounds_toArray, List.set_cons_zero, List.set_cons_succ]
                refine hw_t (i := 1) (d := some 69) (v := ?_) rfl rfl (by kernel_rfl) (by kernel_rfl) (by kernel_rfl) (fun _ _ _ h => h) (by rfl) ?_ (by assumption) ?_
                rotate_left
                · intro w' hSw
                  (try dsimp only at hSw)
                  go_split_ands
                  go_simp
                  try with_reducible rfl
                try simp only [Act.put, List.setIfInBounds_toArray, List.set_cons_zero, List.set_cons_succ]
                refine hw_t (i := 2) (d := some 70) (v := ?_) rfl rfl (by kernel_rfl) (by kernel_rfl) (by kernel_rfl) (fun _ _ _ h => h) (by rfl) ?_ (by assumption) ?_
                rotate_left
                · intro w' hSw
                  (try dsimp only at hSw)
                  go_split_ands
                  go_simp
                  try with_reducible rfl
                try simp only [Act.put, List.setIfInBounds_toArray, List.set_cons_zero, List.set_cons_succ]
                refine hw_t (i := 3) (d := some 71) (v := ?_) rfl rfl (by kernel_rfl) (by kernel_rfl) (by kernel_rfl) (fun _ _ _ h => h) (by rfl) ?_ (by assumption) ?_
                rotate_left
                · intro w' hSw
                  (try dsimp only at hSw)
                  go_split_ands
                  go_simp
                  try with_reducible rfl
                try simp only [Act.put, List.setIfInBounds_toArray, List.set_cons_zero, List.set_cons_succ]
                refine hw_t (i := 4) (d := some 72) (v := ?_) rfl rfl (by kernel_rfl) (by kernel_rfl) (by kernel_rfl) (fun _ _ _ h => h) (by rfl) ?_ (by assumption) ?_
                rotate_left
                · intro w' hSw
                  (try dsimp only at hSw)
                  go_split_ands
                  go_simp
                  try with_reducible rfl
                try simp only [Act.put, List.setIfInBounds_toArray, List.set_cons_zero, List.set_cons_succ]
                generalize W.drew = Y0 at hHeld hB0 ⊢
                refine wpAnyH_ready (rs := [5]) (by kernel_rfl) (by simp) ?_
                refine AllReadyH.cons rfl (fun K hK => ?_) AllReadyH.nil
                go_simp
                go_wp2_with (go_at_call 42; refine (head_any n t.length _ (by omega) (by omega)).mono ?_; rintro e Y1 ⟨v1, rfl, hO1, hB1⟩; obtain ⟨A1, c1, rfl, r1, r2⟩ := own_form hO1; dsimp only [id])
                have hY1 := keepB hB1 hB0
                refine hK.out _ _ (HS.out _ hY1) (fun hHeld => ?_)
                clear hK K
                try simp only [Act.put, List.setIfInBounds_toArray, List.set_cons_zero, List.set_cons_succ]
                refine hw_t (i := 6) (d := some 74) (v := ?_) rfl rfl (by kernel_rfl) (by kernel_rfl) (by kernel_rfl) (fun _ _ _ h => h) (by rfl) ?_ (by assumption) ?_
                rotate_left
                · intro w' hSw
                  (try dsimp only at hSw)
                  go_split_ands
                  go_simp
                  try with_reducible rfl
                try simp only [Act.put, List.setIfInBounds_toArray, List.set_cons_zero, List.set_cons_succ]
                refine wpAnyH_ready (rs := [7]) (by kernel_rfl) (by simp) ?_
                refine AllReadyH.cons rfl (fun K hK => ?_) AllReadyH.nil
                go_simp
                have hY2 := bel_al (o := .cells #[.int .i64 (a : Int), .slice A1 (headL n t.length).length c1] 60) hY1
                refine hK.out _ _ (HS.out _ hY2) (fun hHeld => ?_)
                clear hK K
                try simp only [Act.put, List.setIfInBounds_toArray, List.set_cons_zero, List.set_cons_succ]
                refine wpAnyH_ready (rs := [8]) (by kernel_rfl) (by simp) ?_
                refine AllReadyH.cons rfl (fun K hK => ?_) AllReadyH.nil
                have OY := ((HO.out.below hY1).alloc (.cells #[.int .i64 (a : Int), .slice A1 (headL n t.length).length c1] 60)).outer
                refine step_append_any _ (by rfl) (.tmp 68) (.tmp 75) 32 (by rfl) w.heap.size 60 i6 (.agg #[.int .i64 0, .slice none 0 0]) 2 32 Tryd.underlying32 hi6 hz6 hs6 hb6 rfl (by omega) (.slice A0 L.length c0) L.length xs (by rfl) OY _ (some ⟨Y1.heap.size, 0, none⟩) 1 1 [.int .i64 (a : Int), .slice A1 (headL n t.length).length c1] (by rfl) (own_rd2 Y1 (.int .i64 (a : Int)) (.slice A1 (headL n t.length).length c1) 60) (wr_one2 (a : Int) hO1) (by unfold maxLen; omega) (by omega) (Nat.le_trans hWs hY2.size) ?_
                intro v9 w9 hown9 hgr9 hat9
                obtain ⟨A9, c9, rfl, g1, g2⟩ := own_form hown9
                have b9 := blk_far hgr9 (HLB.out.below hY2 HLB.out.lt) OY (by decide)
                have b9a := blk_far hgr9 (HI.out.ab.below hY2 HI.out.ab.lt) OY (by decide)
                refine hK.out _ _ ⟨b9.cell 0, b9a.cell 0⟩ (fun hHeld => ?_)
                clear hK K
                try simp only [Act.put, List.setIfInBounds_toArray, List.set_cons_zero, List.set_cons_succ]
                refine wpAnyH_done (by kernel_rfl) ?_ _
                refine last_step rfl (fun K hK => ?_)
                have cl9 := b9.cell
                have fz9 := b9.frozen
                go_simp
                refine hK.out _ _ ?_
                clear hK K
                try simp only [Act.put, List.setIfInBounds_toArray, List.set_cons_zero, List.set_cons_succ]
                go_wp2
                go_meet
                obtain ⟨K1, K2, K3, K4, K5⟩ := PBox.next (x := ((a : Int), headL n t.length)) hgw hWs HLB.out HO.out hY1 (by have e := headL_len n t.length; exact own_less hO1 (Nat.le_trans hWs hB0.size)) hown9 hgr9
                refine ⟨?_, K2, by simpa using K3, K4 _ _ _ (by decide) (by decide) HI.out.db, K5.same D _ ((hY1.block D hDl).trans HKD.out) rfl⟩
                have e : L ++ [((a : Int), headL n t.length)] = plan0 d t := by rw [HL.out]; unfold plan0; rw [← HA.out, ← HN.out]; rfl
                rw [e] at K1
                exact K1
              case rest =>
                obtain ⟨hP10, hB10, hs10, hd10, hk10⟩ := hcut
                obtain ⟨W10, hW10⟩ : ∃ W10, W10 = wc := ⟨_, rfl⟩
                rw [← hW10] at hP10 hB10 hs10 hd10 hk10 ⊢
                clear hW10
                obtain ⟨P, hPe⟩ : ∃ P, P = plan0 d t := ⟨_, rfl⟩
                have hPl : P.length ≤ 5000 := by rw [hPe, plan0_len]; omega
                rw [← hPe] at hP10
                have hBw : Below w.heap.size w W10 := HI.out.bel.trans hB10
                have D10 : Hid (DBox W10 w.heap.size A c d) := Lib.hid ⟨hd10, bss_after HDD.out hBw, HCC.out.1, HCC.out.2⟩
                have HBW := Lib.hid hBw
                have P10 := Lib.hid hP10
                have HK10 := Lib.hid hk10
                have hD10 := (Array.getElem?_eq_some_iff.1 hk10).1
                obtain ⟨A3, c3, xs3, hlb3, hO3⟩ := hP10
                have hDw : w.heap.size ≤ D := Nat.le_trans hwW hD
                have hf := HF.out
                obtain ⟨be1, be2, be3, be4⟩ := behind_eq HCK.out hf
                have HSC := Lib.hid (plan_scrub HCK.out hf)
                have SMD := Lib.hid (sm_check HCK.out)
                have SMB := Lib.hid (sm_check be4)
                obtain ⟨BD, hBD⟩ : ∃ b, b = behindD d t := ⟨_, rfl⟩
                obtain ⟨OD, hOD⟩ : ∃ b, b = onD d := ⟨_, rfl⟩
                have ON : Hid (∀ Y : World, Below W10.heap.size W10 Y → Calls Tryd.prog 13 #[dvD A c d] Y (DRet Y OD id)) := Lib.hid (fun Y h => by rw [hOD]; exact on_any A c d Y (D10.out.after h).secs SMD.out)
                have DO : Hid (∀ (Y : World) (A1 : Option Addr) (c1 : Nat), Bss Y Y.heap.size A1 OD.secs.length OD.secs → Below W10.heap.size W10 Y → Calls Tryd.prog 31 #[dvD A1 c1 OD, .slice A3 P.length c3] Y (DRet Y BD fun v => .tuple #[v, .int .i64 0])) := Lib.hid (fun Y A1 c1 h hb => by have h1 := do_any A1 c1 OD A3 P.length c3 P Y h (by rw [hOD]; exact SMD.out) (hO3.below hb).wrs (by omega) (by rw [hOD]; show (-1 : Int) ≤ _; omega); rw [hOD, hPe, be1] at h1; rw [hOD, hPe, hBD]; exact h1)
                have HSC2 : Hid ((scrubD BD).2 = 0) := Lib.hid (by rw [hBD]; exact HSC.out)
                rw [← hBD] at SMB
                have HBD := Lib.hid hBD
                have HPE := Lib.hid hPe
                have HS : Hid (∀ w' : World, Below W10.heap.size W10 w' → w'.cell? ⟨w.heap.size, 0, none⟩ = some (.slice A d.secs.length c) ∧ w'.cell? ⟨w.heap.size, 1, none⟩ = some (.int .i64 d.left) ∧ w'.cell? ⟨w.heap.size, 2, none⟩ = some (.int .i64 d.torn) ∧ w'.cell? ⟨w.heap.size, 3, none⟩ = some (.bool d.off) ∧ w'.cell? ⟨w.heap.size, 4, none⟩ = some (.int .i64 d.done) ∧ w'.cell? ⟨gp, 0, none⟩ = some (.slice A3 P.length c3)) := Lib.hid (fun w' h => by have hh := (D10.out.after h).cells; exact ⟨hh.1, hh.2.1, hh.2.2.1, hh.2.2.2.1, hh.2.2.2.2, (hlb3.below h hlb3.lt).cell 0⟩)
                have hB0 : Below W10.heap.size W10 W10.drew := bel_dr (Below.refl _ _)
                clear hB10 hs10 hd10 hk10 hlb3 hO3 be1 be2 be3 be4 hf hBD hOD hPe hBw HLB HO HI HL HDD HSC
                go_upto_region 18 with (fail)
                go_cut [15, 16] from 77 to 98 (fun s15 s16 wc => s16 = .int .i64 0 ∧ ∃ gb A1 c1, s15 = .pointer (some ⟨gb, 0, none⟩) ∧ DBox wc gb A1 c1 BD ∧ Below W10.heap.size W10 wc)
                case first =>
                  refine wp_calm ?_
                  refine wp_region_held_drew (S := fun w' => w'.cell? ⟨w.heap.size, 0, none⟩ = some (.slice A d.secs.length c) ∧ w'.cell? ⟨w.heap.size, 1, none⟩ = some (.int .i64 d.left) ∧ w'.cell? ⟨w.heap.size, 2, none⟩ = some (.int .i64 d.torn) ∧ w'.cell? ⟨w.heap.size, 3, none⟩ = some (.bool d.off) ∧ w'.cell? ⟨w.heap.size, 4, none⟩ = some (.int .i64 d.done) ∧ w'.cell? ⟨gp, 0, none⟩ = some (.slice A3 P.length c3)) (by kernel_rfl) (HS.out _ hB0) (fun hHeld => ?_)
                  refine hw_t (i := 0) (d := some 78) (v := ?_) rfl rfl (by kernel_rfl) (by kernel_rfl) (by kernel_rfl) (fun _ _ _ h => h) (by rfl) ?_ (by assumption) ?_
                  rotate_left
                  · intro w' hSw
                    (try dsimp only at hSw)
                    go_split_ands
                    go_simp
                    try with_reducible rfl
                  try simp only [Act.put, List.setIfInBounds_toArray, List.set_cons_zero, List.set_cons_succ]
                  refine hw_t (i := 2) (d := some 80) (v := ?_) rfl rfl (by kernel_rfl) (by kernel_rfl) (by kernel_rfl) (fun _ _ _ h => h) (by rfl) ?_ (by assumption) ?_
                  rotate_left
                  · intro w' hSw
                    (try dsimp only at hSw)
                    go_split_ands
                    go_simp
                    try with_reducible rfl
                  try simp only [Act.put, List.setIfInBounds_toArray, List.set_cons_zero, List.set_cons_succ]
                  have hY0 := hB0
                  generalize W10.drew = Y0 at hHeld hY0 ⊢
                  refine wpAnyH_ready (rs := [1, 7]) (by kernel_rfl) (by simp) ?_
                  refine AllReadyH.cons rfl (fun K hK => ?_) (AllReadyH.cons rfl (fun K hK => ?_) AllReadyH.nil)
                  · skip
                    go_simp
                    go_wp2_with (go_at_call 13; refine (ON.out _ hY0).mono ?_; rintro e Y1 ⟨A1, c1, vs1, rfl, hO1, hB1⟩; dsimp only [id])
                    have hY1 := keepB hB1 hY0
                    refine hK.out _ _ (HS.out _ hY1) (fun hHeld => ?_)
                    clear hK K
                    try simp only [Act.put, List.setIfInBounds_toArray, List.set_cons_zero, List.set_cons_succ]
                    refine wpAnyH_ready (rs := [3, 7]) (by kernel_rfl) (by simp) ?_
                    refine AllReadyH.cons rfl (fun K hK => ?_) (AllReadyH.cons rfl (fun K hK => ?_) AllReadyH.nil)
                    · skip
                      go_simp
                      go_wp2_with (go_at_call 31; refine (DO.out _ A1 c1 (hO1.bss) hY1).mono ?_; rintro e Y2 ⟨A2, c2, vs2, rfl, hO2, hB2⟩)
                      have hY2 := keepB hB2 hY1
                      refine hK.out _ _ (HS.out _ hY2) (fun hHeld => ?_)
                      clear hK K
                      try simp only [Act.put, List.setIfInBounds_toArray, List.set_cons_zero, List.set_cons_succ]
                      refine hw_t (i := 4) (d := some 77) (v := ?_) rfl rfl (by kernel_rfl) (by kernel_rfl) (by kernel_rfl) (fun _ _ _ h => h) (by rfl) ?_ (by assumption) ?_
                      rotate_left
                      · intro w' hSw
                        (try dsimp only at hSw)
                        go_split_ands
                        go_simp
                        try with_reducible rfl
                      try simp only [Act.put, List.setIfInBounds_toArray, List.set_cons_zero, List.set_cons_succ]
                      refine hw_t (i := 5) (d := some 82) (v := ?_) rfl rfl (by kernel_rfl) (by kernel_rfl) (by kernel_rfl) (fun _ _ _ h => h) (by rfl) ?_ (by assumption) ?_
                      rotate_left
                      · intro w' hSw
                        (try dsimp only at hSw)
                        go_split_ands
                        go_simp
                        try with_reducible rfl
                      try simp only [Act.put, List.setIfInBounds_toArray, List.set_cons_zero, List.set_cons_succ]
                      refine hw_t (i := 6) (d := some 83) (v := ?_) rfl rfl (by kernel_rfl) (by kernel_rfl) (by kernel_rfl) (fun _ _ _ h => h) (by rfl) ?_ (by assumption) ?_
                      rotate_left
                      · intro w' hSw
                        (try dsimp only at hSw)
                        go_split_ands
                        go_simp
                        try with_reducible rfl
                      try simp only [Act.put, List.setIfInBounds_toArray, List.set_cons_zero, List.set_cons_succ]
                      refine wpAnyH_ready (rs := [7]) (by kernel_rfl) (by simp) ?_
                      refine AllReadyH.cons rfl (fun K hK => ?_) AllReadyH.nil
                      go_simp
                      have hY3 := bel_al (o := .cells #[.slice none 0 0, .int .i64 0, .int .i64 0, .bool false, .int .i64 0] 24) hY2
                      refine hK.out _ _ (HS.out _ hY3) (fun hHeld => ?_)
                      clear hK K
                      try simp only [Act.put, List.setIfInBounds_toArray, List.set_cons_zero, List.set_cons_succ]
                      have bb := Blk.new Y2 24 #[.slice none 0 0, .int .i64 0, .int .i64 0, .bool false, .int .i64 0]
                      have hgb := hY2.size
                      have hYY := below_one Y2 (.cells #[.slice none 0 0, .int .i64 0, .int .i64 0, .bool false, .int .i64 0] 24)
                      obtain ⟨gb, hgbe⟩ : ∃ g, g = Y2.heap.size := ⟨_, rfl⟩
                      rw [← hgbe] at bb hgb ⊢
                      generalize (Y2.alloc (.cells #[.slice none 0 0, .int .i64 0, .int .i64 0, .bool false, .int .i64 0] 24)) = Y3 at hHeld hY3 bb hYY ⊢
                      clear hgbe
                      have fz := (bb).frozen
                      have cl := (bb).cell
                      obtain ⟨E1, E2⟩ := beh_close hY3 (bb) hgb (hO2.below hYY)
                      refine wpAnyH_ready (rs := [8]) (by kernel_rfl) (by simp) ?_
                      refine AllReadyH.cons rfl (fun K hK => ?_) AllReadyH.nil
                      go_simp
                      refine hK.out _ _ (HS.out _ E1) (fun hHeld => ?_)
                      clear hK K
                      try simp only [Act.put, List.setIfInBounds_toArray, List.set_cons_zero, List.set_cons_succ]
                      refine wpAnyH_ready (rs := [9]) (by kernel_rfl) (by simp) ?_
                      refine AllReadyH.cons rfl (fun K hK => ?_) AllReadyH.nil
                      go_simp
                      refine hK.out _ _ (HS.out _ E1) (fun hHeld => ?_)
                      clear hK K
                      try simp only [Act.put, List.setIfInBounds_toArray, List.set_cons_zero, List.set_cons_succ]
                      refine wpAnyH_done (by kernel_rfl) ?_ _
                      go_wp2
                      go_meet
                      exact ⟨rfl, gb, A2, c2, rfl, E2, E1⟩
                    · skip
                      go_simp
                      have hY2 := bel_al (o := .cells #[.slice none 0 0, .int .i64 0, .int .i64 0, .bool false, .int .i64 0] 24) hY1
                      refine hK.out _ _ (HS.out _ hY2) (fun hHeld => ?_)
                      clear hK K
                      try simp only [Act.put, List.setIfInBounds_toArray, List.set_cons_zero, List.set_cons_succ]
                      have bb := Blk.new Y1 24 #[.slice none 0 0, .int .i64 0, .int .i64 0, .bool false, .int .i64 0]
                      have hgb := hY1.size
                      have hYY := below_one Y1 (.cells #[.slice none 0 0, .int .i64 0, .int .i64 0, .bool false, .int .i64 0] 24)
                      obtain ⟨gb, hgbe⟩ : ∃ g, g = Y1.heap.size := ⟨_, rfl⟩
                      rw [← hgbe] at bb hgb ⊢
                      generalize (Y1.alloc (.cells #[.slice none 0 0, .int .i64 0, .int .i64 0, .bool false, .int .i64 0] 24)) = Y2 at hHeld hY2 bb hYY ⊢
                      clear hgbe
                      refine wpAnyH_ready (rs := [3]) (by kernel_rfl) (by simp) ?_
                      refine AllReadyH.cons rfl (fun K hK => ?_) AllReadyH.nil
                      go_simp
                      go_wp2_with (go_at_call 31; refine (DO.out _ A1 c1 (bss_after hO1.bss hYY) hY2).mono ?_; rintro e Y3 ⟨A2, c2, vs2, rfl, hO2, hB2⟩)
                      have hY3 := keepB hB2 hY2
                      refine hK.out _ _ (HS.out _ hY3) (fun hHeld => ?_)
                      clear hK K
                      try simp only [Act.put, List.setIfInBounds_toArray, List.set_cons_zero, List.set_cons_succ]
                      refine hw_t (i := 4) (d := some 77) (v := ?_) rfl rfl (by kernel_rfl) (by kernel_rfl) (by kernel_rfl) (fun _ _ _ h => h) (by rfl) ?_ (by assumption) ?_
                      rotate_left
                      · intro w' hSw
                        (try dsimp only at hSw)
                        go_split_ands
                        go_simp
                        try with_reducible rfl
                      try simp only [Act.put, List.setIfInBounds_toArray, List.set_cons_zero, List.set_cons_succ]
                      refine hw_t (i := 5) (d := some 82) (v := ?_) rfl rfl (by kernel_rfl) (by kernel_rfl) (by kernel_rfl) (fun _ _ _ h => h) (by rfl) ?_ (by assumption) ?_
                      rotate_left
                      · intro w' hSw
                        (try dsimp only at hSw)
                        go_split_ands
                        go_simp
                        try with_reducible rfl
                      try simp only [Act.put, List.setIfInBounds_toArray, List.set_cons_zero, List.set_cons_succ]
                      refine hw_t (i := 6) (d := some 83) (v := ?_) rfl rfl (by kernel_rfl) (by kernel_rfl) (by kernel_rfl) (fun _ _ _ h => h) (by rfl) ?_ (by assumption) ?_
                      rotate_left
                      · intro w' hSw
                        (try dsimp only at hSw)
                        go_split_ands
                        go_simp
                        try with_reducible rfl
                      try simp only [Act.put, List.setIfInBounds_toArray, List.set_cons_zero, List.set_cons_succ]
                      have fz := (bb.below hB2 bb.lt).frozen
                      have cl := (bb.below hB2 bb.lt).cell
                      obtain ⟨E1, E2⟩ := beh_close hY3 (bb.below hB2 bb.lt) hgb (hO2)
                      refine wpAnyH_ready (rs := [8]) (by kernel_rfl) (by simp) ?_
                      refine AllReadyH.cons rfl (fun K hK => ?_) AllReadyH.nil
                      go_simp
                      refine hK.out _ _ (HS.out _ E1) (fun hHeld => ?_)
                      clear hK K
                      try simp only [Act.put, List.setIfInBounds_toArray, List.set_cons_zero, List.set_cons_succ]
                      refine wpAnyH_ready (rs := [9]) (by kernel_rfl) (by simp) ?_
                      refine AllReadyH.cons rfl (fun K hK => ?_) AllReadyH.nil
                      go_simp
                      refine hK.out _ _ (HS.out _ E1) (fun hHeld => ?_)
                      clear hK K
                      try simp only [Act.put, List.setIfInBounds_toArray, List.set_cons_zero, List.set_cons_succ]
                      refine wpAnyH_done (by kernel_rfl) ?_ _
                      go_wp2
                      go_meet
                      exact ⟨rfl, gb, A2, c2, rfl, E2, E1⟩
                  · skip
                    go_simp
                    have hY1 := bel_al (o := .cells #[.slice none 0 0, .int .i64 0, .int .i64 0, .bool false, .int .i64 0] 24) hY0
                    refine hK.out _ _ (HS.out _ hY1) (fun hHeld => ?_)
                    clear hK K
                    try simp only [Act.put, List.setIfInBounds_toArray, List.set_cons_zero, List.set_cons_succ]
                    have bb := Blk.new Y0 24 #[.slice none 0 0, .int .i64 0, .int .i64 0, .bool false, .int .i64 0]
                    have hgb := hY0.size
                    have hYY := below_one Y0 (.cells #[.slice none 0 0, .int .i64 0, .int .i64 0, .bool false, .int .i64 0] 24)
                    obtain ⟨gb, hgbe⟩ : ∃ g, g = Y0.heap.size := ⟨_, rfl⟩
                    rw [← hgbe] at bb hgb ⊢
                    generalize (Y0.alloc (.cells #[.slice none 0 0, .int .i64 0, .int .i64 0, .bool false, .int .i64 0] 24)) = Y1 at hHeld hY1 bb hYY ⊢
                    clear hgbe
                    refine wpAnyH_ready (rs := [1]) (by kernel_rfl) (by simp) ?_
                    refine AllReadyH.cons rfl (fun K hK => ?_) AllReadyH.nil
                    go_simp
                    go_wp2_with (go_at_call 13; refine (ON.out _ hY1).mono ?_; rintro e Y2 ⟨A1, c1, vs1, rfl, hO1, hB1⟩; dsimp only [id])
                    have hY2 := keepB hB1 hY1
                    refine hK.out _ _ (HS.out _ hY2) (fun hHeld => ?_)
                    clear hK K
                    try simp only [Act.put, List.setIfInBounds_toArray, List.set_cons_zero, List.set_cons_succ]
                    refine wpAnyH_ready (rs := [3]) (by kernel_rfl) (by simp) ?_
                    refine AllReadyH.cons rfl (fun K hK => ?_) AllReadyH.nil
                    go_simp
                    go_wp2_with (go_at_call 31; refine (DO.out _ A1 c1 (hO1.bss) hY2).mono ?_; rintro e Y3 ⟨A2, c2, vs2, rfl, hO2, hB2⟩)
                    have hY3 := keepB hB2 hY2
                    refine hK.out _ _ (HS.out _ hY3) (fun hHeld => ?_)
                    clear hK K
                    try simp only [Act.put, List.setIfInBounds_toArray, List.set_cons_zero, List.set_cons_succ]
                    refine hw_t (i := 4) (d := some 77) (v := ?_) rfl rfl (by kernel_rfl) (by kernel_rfl) (by kernel_rfl) (fun _ _ _ h => h) (by rfl) ?_ (by assumption) ?_
                    rotate_left
                    · intro w' hSw
                      (try dsimp only at hSw)
                      go_split_ands
                      go_simp
                      try with_reducible rfl
                    try simp only [Act.put, List.setIfInBounds_toArray, List.set_cons_zero, List.set_cons_succ]
                    refine hw_t (i := 5) (d := some 82) (v := ?_) rfl rfl (by kernel_rfl) (by kernel_rfl) (by kernel_rfl) (fun _ _ _ h => h) (by rfl) ?_ (by assumption) ?_
                    rotate_left
                    · intro w' hSw
                      (try dsimp only at hSw)
                      go_split_ands
                      go_simp
                      try with_reducible rfl
                    try simp only [Act.put, List.setIfInBounds_toArray, List.set_cons_zero, List.set_cons_succ]
                    refine hw_t (i := 6) (d := some 83) (v := ?_) rfl rfl (by kernel_rfl) (by kernel_rfl) (by kernel_rfl) (fun _ _ _ h => h) (by rfl) ?_ (by assumption) ?_
                    rotate_left
                    · intro w' hSw
                      (try dsimp only at hSw)
                      go_split_ands
                      go_simp
                      try with_reducible rfl
                    try simp only [Act.put, List.setIfInBounds_toArray, List.set_cons_zero, List.set_cons_succ]
                    have fz := ((bb.below hB1 bb.lt).below hB2 (bb.below hB1 bb.lt).lt).frozen
                    have cl := ((bb.below hB1 bb.lt).below hB2 (bb.below hB1 bb.lt).lt).cell
                    obtain ⟨E1, E2⟩ := beh_close hY3 ((bb.below hB1 bb.lt).below hB2 (bb.below hB1 bb.lt).lt) hgb (hO2)
                    refine wpAnyH_ready (rs := [8]) (by kernel_rfl) (by simp) ?_
                    refine AllReadyH.cons rfl (fun K hK => ?_) AllReadyH.nil
                    go_simp
                    refine hK.out _ _ (HS.out _ E1) (fun hHeld => ?_)
                    clear hK K
                    try simp only [Act.put, List.setIfInBounds_toArray, List.set_cons_zero, List.set_cons_succ]
                    refine wpAnyH_ready (rs := [9]) (by kernel_rfl) (by simp) ?_
                    refine AllReadyH.cons rfl (fun K hK => ?_) AllReadyH.nil
                    go_simp
                    refine hK.out _ _ (HS.out _ E1) (fun hHeld => ?_)
                    clear hK K
                    try simp only [Act.put, List.setIfInBounds_toArray, List.set_cons_zero, List.set_cons_succ]
                    refine wpAnyH_done (by kernel_rfl) ?_ _
                    go_wp2
                    go_meet
                    exact ⟨rfl, gb, A2, c2, rfl, E2, E1⟩
                case rest =>
                  obtain ⟨rfl, gb, A1, c1, rfl, hD11, hB11⟩ := hcut
                  obtain ⟨W11, hW11⟩ : ∃ W11, W11 = wc := ⟨_, rfl⟩
                  rw [← hW11] at hD11 hB11 ⊢
                  clear hW11
                  have P11 := Lib.hid (P10.out.below hB11)
                  have HBW11 := Lib.hid (HBW.out.trans (hB11.mono HBW.out.size))
                  have HK11 := Lib.hid ((hB11.block D hD10).trans HK10.out)
                  have D11 := Lib.hid hD11
                  have hD11s : D < W11.heap.size := Nat.lt_of_lt_of_le hD10 hB11.size
                  obtain ⟨q0, q1, q2, q3, q4⟩ := hD11.cells
                  clear hD11 hB11
                  obtain ⟨more, hmo⟩ : ∃ m, m = (scrubD BD).1 := ⟨_, rfl⟩
                  have hml : more.length ≤ 5000 := by rw [hmo]; exact scrub_len SMB.out.1
                  have SC : Hid (∀ Y : World, Bss Y Y.heap.size A1 BD.secs.length BD.secs → BD.secs.length ≤ c1 → c1 ≤ maxLen → Calls Tryd.prog 14 #[dvD A1 c1 BD] Y (WRet Y (more, 0))) := Lib.hid (fun Y h h1 h2 => by have := scrub_any A1 c1 BD Y h h1 h2 SMB.out; have e : scrubD BD = (more, 0) := (by rw [hmo, ← HSC2.out]); rw [e] at this; exact this)
                  have HMO := Lib.hid hmo
                  clear hmo
                  go_upto_region 24 with (go_at_call 14; refine (SC.out _ D11.out.secs D11.out.cap D11.out.cm).mono ?_; rintro e W12 ⟨A12, c12, xs12, rfl, hO12, hB12⟩; dsimp only)
                  obtain ⟨A13, c13, xs13, hlb13, hO13⟩ := P11.out.below hB12
                  dsimp only at hO12
                  have OA := Lib.hid hO13
                  have OB := Lib.hid (hO12.less (Nat.le_trans HBW11.out.size (Nat.le_refl _)))
                  have HB12 := Lib.hid (HBW11.out.trans (hB12.mono HBW11.out.size))
                  have HK12 := Lib.hid ((hB12.block D hD11s).trans HK11.out)
                  have RB := Lib.hid (own_rdn hO12.outer)
                  have k13 := hlb13.cell
                  have hws12 := HB12.out.size
                  clear hO12 hB12 hlb13 hO13 q0 q1 q2 q3 q4
                  go_wp2_with (at_builtin; refine wpList_append_any _ rfl (.tmp 95) (.tmp 96) 32 rfl w.heap.size 60 i6 (.agg #[.int .i64 0, .slice none 0 0]) 2 32 Tryd.underlying32 hi6 hz6 hs6 hb6 rfl (by omega) (.slice A13 P.length c13) P.length xs13 rfl OA.out.outer _ A12 more.length c12 xs12 rfl RB.out (wrs_one OB.out) (by unfold maxLen; omega) (by omega) hws12 ?_; intro v9 W13 hown9 hgr9 hat9)
                  obtain ⟨A9, c9, rfl, g1, g2⟩ := own_form hown9
                  have hrow : ∀ r, (Value.slice A13 P.length c13).ownBlock = some r → ∃ o : Obj, W12.heap[r]? = some o ∧ o.isCells = true := fun r e => by obtain ⟨cur, hh, _⟩ := own_block OA.out.outer e; exact ⟨_, hh, rfl⟩
                  have hrow2 : ∀ r, (Value.slice A13 P.length c13).ownBlock = some r → w.heap.size ≤ r := fun r e => by obtain ⟨_, _, hh, _⟩ := own_block OA.out.outer e; exact hh
                  have hK13 : W13.heap[D]? = some (.deferred (some [])) := (KeepsOthers.of_grownBy hgr9 (fun j o e ho => by obtain ⟨o', ho', hc'⟩ := hrow j e; rw [ho] at ho'; injection ho' with ho'; rw [ho']; exact hc')).same D _ HK12.out rfl
                  have p9 := OA.out.app OB.out hown9 hgr9
                  have B13 := HB12.out.grown hgr9 hws12 (fun k e => hrow2 k e)
                  go_wp2
                  refine ⟨by simp, .inl ⟨_, _, rfl, run_takeDeferred hK13, ?_⟩⟩
                  refine ⟨_, results_tmp2 rfl _ _ _, ?_⟩
                  have e13 : (plan0 d t ++ (scrubD (behindD d t)).1).length = P.length + more.length := by rw [HPE.out, HMO.out, HBD.out, List.length_append]
                  have O1 := p9.turned (grownBy_putObj' W13 D (.deferred none)) (fun r e => by injection e with e; subst e; exact ⟨_, hK13, rfl⟩)
                  rw [← HBD.out, ← HMO.out, ← HPE.out]
                  exact ⟨A9, c9, xs13 ++ xs12, by simp, by rw [List.length_append]; exact O1, B13.grown (grownBy_putObj' W13 D (.deferred none)) B13.size (fun k e => by injection e with e; omega)⟩
    · have hr : planD d t = ([], 180) := by unfold planD fullD; rw [hck, if_pos rfl, hmax]; rfl
      rw [hr]
      rcases hn : newestD d with _ | ⟨k, n, m⟩
      · unfold maxD at hmax
        rw [hn] at hmax
        cases hmax
      · have hmx : 4611686018427387903 ≤ n := by unfold maxD at hmax; rw [hn] at hmax; simpa using hmax
        have hmx2 : (4611686018427387903 : Int) ≤ (n : Int) := by omega
        have hmx3 : decide ((4611686018427387903 : Int) ≤ (n : Int)) = true := decide_eq_true hmx2
        have HN := Lib.hid hn
        clear hr hck hn hmax hre
        go_enter Tryd.func21, Tryd.ntmps21
        go_wp2_with (first
          | (go_at_call 11; refine (CHK.out _ D0.out.secs).mono ?_; rintro e w2 ⟨rfl, hB2⟩; have D2 := Lib.hid (D0.out.after hB2); have HB2 := Lib.hid (keepB hB2 (below_one w _)); clear hB2 q0 q1 q2 q3 q4; obtain ⟨q0, q1, q2, q3, q4⟩ := D2.out.cells)
          | (go_at_call 34; refine (newest_any A c d _ D2.out.secs D2.out.cap D2.out.cm HCK.out).mono ?_; rw [HN.out]; simp only [txC, Option.isSome_some]; rintro e w3 ⟨rfl, hB3⟩; have ct := (Blk.new w3 53 #[.int .i64 (k : Int), .int .i64 (n : Int), .int .i64 (m : Int)]).cell))
        go_ret2
        exact ⟨none, 0, [], rfl, OwnW.nil _ _, bel_al (keepB hB3 HB2.out)⟩
end Go.Proofs.YtgeofnemlijbgaaDoor
