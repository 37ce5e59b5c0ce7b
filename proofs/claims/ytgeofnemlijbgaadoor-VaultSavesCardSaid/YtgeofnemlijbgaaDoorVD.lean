/- vault.Scrub. -/
import Derived.Test.YtgeofnemlijbgaaDoorVC
namespace Go.Proofs.YtgeofnemlijbgaaDoor
open Go.RowKit Go.Shelf
set_option linter.unusedVariables false
set_option linter.unusedSimpArgs false
attribute [local go_sem] Oper.semAt_some

theorem atD_le {d : Dsk} (hck : checkB d.secs = true) (k : Nat) : atD d k + halfD d ≤ d.secs.length := by
  obtain ⟨_, h2, _, _⟩ := halfD_eq hck
  unfold atD
  split <;> omega
theorem areaN_at {d : Dsk} (hck : checkB d.secs = true) {k : Nat} (hk : k ≤ 1) : areaN d.secs.length k = ((atD d k : Int), (halfD d : Int)) := by
  obtain ⟨g1, _⟩ := halfD_eq hck
  unfold areaN atD
  rcases (by omega : k = 0 ∨ k = 1) with rfl | rfl
  · simp [g1]
  · simp [g1]

set_option maxRecDepth 100000 in
set_option maxHeartbeats 8000000 in
theorem scrub_any (A : Option Addr) (c : Nat) (d : Dsk) (w : World) (hd : Bss w w.heap.size A d.secs.length d.secs) (h1 : d.secs.length ≤ c) (h2 : c ≤ maxLen) (hs : Sm d.secs) :
    Calls Tryd.prog 14 #[dvD A c d] w (WRet w (scrubD d)) := by
  obtain ⟨i6, hi6, hz6, hs6, hb6⟩ := info_parts infoTW
  have hmk := run_make64
  have D0 := Lib.hid (DBox.arg hd h1 h2)
  have HDD := Lib.hid hd
  have hml : d.secs.length ≤ maxLen := by have := hs.1; unfold maxLen; omega
  have HML := Lib.hid hml
  obtain ⟨q0, q1, q2, q3, q4⟩ := D0.out.cells
  clear hd h1 h2 hs hml
  cases hck : checkB d.secs
  · have hr : scrubD d = ([], 1) := by unfold scrubD; rw [hck]; rfl
    rw [hr]
    have HCK := Lib.hid hck
    clear hr hck
    go_enter Tryd.func14, Tryd.ntmps14
    go_wp2_with (go_at_call 11; refine (check_any A d.secs.length c d.left d.torn d.off d.done d.secs _ D0.out.secs HML.out).mono ?_; rw [HCK.out]; rintro e w2 ⟨rfl, hB2⟩)
    go_ret2
    exact ⟨none, 0, [], rfl, OwnW.nil _ _, keepB hB2 (below_one w _)⟩
  · have HCK := Lib.hid hck
    have CHK : Hid (∀ w' : World, Bss w' w'.heap.size A d.secs.length d.secs → Calls Tryd.prog 11 #[dvD A c d] w' fun e w'' => e = .returned (.bool true) ∧ Below w'.heap.size w' w'') := Lib.hid (fun w' hb => (check_any A d.secs.length c d.left d.torn d.off d.done d.secs _ hb HML.out).mono (by rw [hck]; exact fun _ _ h => h))
    rcases hn : newestD d with _ | ⟨k, n, m⟩
    · have hr : scrubD d = ([], 181) := by unfold scrubD; rw [hck, if_pos rfl, hn]
      rw [hr]
      have HN := Lib.hid hn
      clear hr hck hn
      go_enter Tryd.func14, Tryd.ntmps14
      go_wp2_with (first
        | (go_at_call 11; refine (CHK.out _ D0.out.secs).mono ?_; rintro e w2 ⟨rfl, hB2⟩; have D2 := Lib.hid (D0.out.after hB2); have HB2 := Lib.hid (keepB hB2 (below_one w _)); clear hB2 q0 q1 q2 q3 q4; obtain ⟨q0, q1, q2, q3, q4⟩ := D2.out.cells)
        | (go_at_call 34; refine (newest_any A c d _ D2.out.secs D2.out.cap D2.out.cm HCK.out).mono ?_; rw [HN.out]; simp only [txC, Option.isSome_none]; rintro e w3 ⟨rfl, hB3⟩))
      go_ret2
      exact ⟨none, 0, [], rfl, OwnW.nil _ _, bel_al (keepB hB3 HB2.out)⟩
    · obtain ⟨hk, hn62, hm⟩ := newest_le hn
      obtain ⟨g1, g2, g3, g4⟩ := halfD_eq hck
      have hlen := (checkB_len hck).2
      have hu : (m + 63) / 64 ≤ halfD d - 1 := by have := halfN_rng d.secs.length; unfold roomN at hm; omega
      obtain ⟨k1, hk1⟩ : ∃ k1, k1 = 1 - k := ⟨_, rfl⟩
      have hk1i : (1 : Int) - (k : Int) = (k1 : Int) := by omega
      have hr : scrubD d = (wipe (dts d.secs (atD d k1) (halfD d)) ++ wipe (dts d.secs (atD d k + 1 + (m + 63) / 64) (halfD d - 1 - (m + 63) / 64)), 0) := by unfold scrubD; rw [hck, if_pos rfl, hn, hk1]
      have hle0 := atD_le hck k
      have hle1 := atD_le hck k1
      have HAR := Lib.hid (areaN_at hck hk)
      have HAR1 := Lib.hid (areaN_at hck (k := k1) (by omega))
      rw [hr]
      clear hr
      obtain ⟨u, hue⟩ : ∃ u, u = (m + 63) / 64 := ⟨_, rfl⟩
      obtain ⟨a, ha⟩ : ∃ a, a = atD d k := ⟨_, rfl⟩
      obtain ⟨a1, ha1⟩ : ∃ a, a = atD d k1 := ⟨_, rfl⟩
      obtain ⟨h, hh⟩ : ∃ a, a = halfD d := ⟨_, rfl⟩
      rw [← hue, ← ha, ← ha1, ← hh]
      rw [← ha, ← hh] at HAR hle0
      rw [← ha1, ← hh] at HAR1 hle1
      rw [← hue, ← hh] at hu
      rw [← hh] at g2 g3 g4
      have hmm : m ≤ 65536 := by have := halfN_rng d.secs.length; unfold roomN at hm; omega
      have hu1 : IntKind.i64.wrap ((m : Int) + 64) = (m : Int) + 64 := IntWalk.i64_in _ (by omega)
      have hu2 : IntKind.i64.wrap ((m : Int) + 64 - 1) = (m : Int) + 64 - 1 := IntWalk.i64_in _ (by omega)
      have hu3 : ((m : Int) + 64 - 1).tdiv 64 = (u : Int) := by rw [Int.tdiv_eq_ediv_of_nonneg (by omega), hue]; omega
      have hu4 : ((m : Int) + 64 - 1) / 64 = (u : Int) := by rw [hue]; omega
      have hu5 : ((m : Int) + 63) / 64 = (u : Int) := by rw [hue]; omega
      have hw1 : IntKind.i64.wrap (1 - (k : Int)) = (k1 : Int) := by rw [IntWalk.i64_in _ (by omega)]; exact hk1i
      have hw2 : IntKind.i64.wrap ((a1 : Int) + (h : Int)) = (a1 : Int) + (h : Int) := IntWalk.i64_in _ (by omega)
      have hw3 : IntKind.i64.wrap ((a : Int) + (h : Int)) = (a : Int) + (h : Int) := IntWalk.i64_in _ (by omega)
      have hw4 : IntKind.i64.wrap ((a : Int) + 1) = (a : Int) + 1 := IntWalk.i64_in _ (by omega)
      have hw5 : IntKind.i64.wrap ((a : Int) + 1 + (u : Int)) = (a : Int) + 1 + (u : Int) := IntWalk.i64_in _ (by omega)
      have HN := Lib.hid hn
      clear hck hn g1 hue ha ha1 hh hm hk1 g2
      have hx1 : 1 ≤ 5 := by omega
      refine (callsIn_wide (n := 5)).1 ?_
      refine callsIn_of_wp_marks Tryd.func14 rfl trivial ?_ rfl
      simp only [Tryd.ntmps14, List.size_toArray, List.length_cons, List.length_nil, Nat.reduceAdd, Nat.reduceSub, Array.replicate_succ, Array.replicate_zero, List.push_toArray, List.append_toArray, List.nil_append, List.cons_append]
      gi_wp2_with (first
        | (refine ⟨trivial, ?_⟩; gi_at_call 11; refine (callsIn_wide.2 (CHK.out _ D0.out.secs)).mono ?_; rintro e w2 ⟨rfl, hB2⟩; have D2 := Lib.hid (D0.out.after hB2); have HB2 := Lib.hid (keepB hB2 (below_one w _)); clear hB2 q0 q1 q2 q3 q4; obtain ⟨q0, q1, q2, q3, q4⟩ := D2.out.cells)
        | (refine ⟨trivial, ?_⟩; gi_at_call 34; refine (callsIn_wide.2 (newest_any A c d _ D2.out.secs D2.out.cap D2.out.cm HCK.out)).mono ?_; rw [HN.out]; simp only [txC, Option.isSome_some]; rintro e w3 ⟨rfl, hB3⟩; have hs3 := (keepB hB3 HB2.out).size; have D3 := Lib.hid (((D2.out.after hB3).alloc (.cells #[.int .i64 (k : Int), .int .i64 (n : Int), .int .i64 (m : Int)] 53)).alloc (.cells #[.slice none 0 0] 32)); have HB3 := Lib.hid (bel_al (o := .cells #[.slice none 0 0] 32) (bel_al (o := .cells #[.int .i64 (k : Int), .int .i64 (n : Int), .int .i64 (m : Int)] 53) (keepB hB3 HB2.out))); have BT := Lib.hid ((Blk.new w3 53 #[.int .i64 (k : Int), .int .i64 (n : Int), .int .i64 (m : Int)]).alloc (.cells #[.slice none 0 0] 32)); have BL := Lib.hid (blk_two w3 (.cells #[.int .i64 (k : Int), .int .i64 (n : Int), .int .i64 (m : Int)] 53) 32 #[.slice none 0 0]); have ct0 := (Blk.new w3 53 #[.int .i64 (k : Int), .int .i64 (n : Int), .int .i64 (m : Int)]).cell; have ct := BT.out.cell; clear hB3 q0 q1 q2 q3 q4; obtain ⟨q0, q1, q2, q3, q4⟩ := D3.out.cells)
        | (refine ⟨trivial, ?_⟩; gi_at_call 15; refine (callsIn_wide.2 (area_any _ _ _)).mono ?_; rw [HAR1.out]; rintro e w4 ⟨rfl, hB4⟩; have D4 := Lib.hid (D3.out.after hB4); have BT4 := Lib.hid (BT.out.below hB4 BT.out.lt); have BL4 := Lib.hid (BL.out.below hB4 BL.out.lt); have HB4 := Lib.hid (keepB hB4 HB3.out); have hs34 := hB4.size; clear hB4 q0 q1 q2 q3 q4 ct ct0; obtain ⟨q0, q1, q2, q3, q4⟩ := D4.out.cells)
        | (refine ⟨trivial, ?_⟩; gi_at_call 35; refine (dirty_in _ A d.secs.length c d.left d.torn d.off d.done (a1 : Int) ((a1 : Int) + (h : Int)) _).mono ?_; rintro e w5 ⟨rfl, rfl⟩))
      clear q0 q1 q2 q3 q4
      have e1 := iter_boxes w4 #[.slice A d.secs.length c, .int .i64 d.left, .int .i64 d.torn, .bool d.off, .int .i64 d.done] (a1 : Int) ((a1 : Int) + (h : Int))
      obtain ⟨eD, eF, eT, eB, eS⟩ := e1
      have ED := Lib.hid eD
      have EF := Lib.hid eF
      have ET := Lib.hid eT
      have EB := Lib.hid eB
      have DW := Lib.hid (D4.out.after eB)
      have BTW := Lib.hid (BT4.out.below eB BT4.out.lt)
      have BLW := Lib.hid (BL4.out.below eB BL4.out.lt)
      have BW := Lib.hid (keepB eB HB4.out)
      generalize (((w4.alloc (.cells #[.slice A d.secs.length c, .int .i64 d.left, .int .i64 d.torn, .bool d.off, .int .i64 d.done] 24)).alloc (.cells #[.int .i64 (a1 : Int)] 3)).alloc (.cells #[.int .i64 ((a1 : Int) + (h : Int))] 3)) = W0 at ED EF ET EB DW BTW BLW BW eS ⊢
      clear eD eF eT eB D0 D2 HB2 D3 HB3 D4 HB4 BT4 BL4 BT BL
      have hwW : w.heap.size ≤ W0.heap.size := BW.out.size
      have hw4s : w4.heap.size + 3 ≤ W0.heap.size := by omega
      have hw34 : w.heap.size ≤ w3.heap.size + 1 := by omega
      refine wpIn_rangeFunc_ownF rfl hx1 (gf := 50) (lb := #[.pointer (some ⟨w4.heap.size + 1, 0, none⟩), .pointer (some ⟨w4.heap.size + 1 + 1, 0, none⟩), .pointer (some ⟨w4.heap.size, 0, none⟩)]) rfl trivial (enters_of Tryd.func50 (by kernel_rfl) rfl)
        (dirty_stops 4 (by omega) (w4.heap.size + 1) (w4.heap.size + 1 + 1) w4.heap.size w.heap.size A c d a1 h hle1 HCK.out W0 hwW (EF.out.cell 0) ((ET.out.cell 0).trans (by simp)) (ED.out.cell 0) EF.out.lt ET.out.lt ED.out.lt (HDD.out.below BW.out))
        KpD.trans (fun W l o o' hl hw hc hk => kpd_turn (w := W0) hwW (by omega) (by omega) W l o o' hl hw hc hk) (Below.refl _ _) (fun _ => rfl)
        (fun pre W => ScI w W (w3.heap.size + 1) w3.heap.size (w4.heap.size + 1 + 1) w4.heap.size W0.heap.size #[.slice A d.secs.length c, .int .i64 d.left, .int .i64 d.torn, .bool d.off, .int .i64 d.done] #[.int .i64 (k : Int), .int .i64 (n : Int), .int .i64 (m : Int)] #[.int .i64 ((a1 : Int) + (h : Int))] (wipe pre))
        (fun _ _ _ => False)
        (fun s X Y row hs hg hr => hs.turned hg (fun r e => ⟨Nat.le_trans hwW (hr r e).1, (hr r e).2⟩))
        (fun _ _ _ _ _ hs _ _ => hs)
        ⟨⟨none, 0, [], BLW.out, OwnW.nil _ _⟩, DW.out.blk, BTW.out, ET.out, ED.out, BW.out, Nat.le_refl _⟩
        ?a1 ?assign ?body ?done ?stop
      case assign =>
        intro l x W K hK
        gi_wp2
        exact hK
      case stop =>
        rintro D c pre W _ _ h _
        exact h.elim
      case body =>
        intro l pre x W hI hlt
        obtain ⟨A0, c0, xs, hlb, hO⟩ := hI.lb
        obtain ⟨L, hL⟩ : ∃ L, L = wipe pre := ⟨_, rfl⟩
        have hLl : L.length ≤ 5000 := by rw [hL]; rw [wipe_len]; omega
        rw [← hL] at hI hlb hO
        have BY := Lib.hid (((show Blk W.drew (w3.heap.size + 1) 32 #[.slice A0 L.length c0] from hlb).alloc (.cells z64 5)).alloc (.cells #[.int .i64 (x : Int), .slice (some ⟨W.heap.size, 0, none⟩) 64 64] 60))
        have OY := Lib.hid (((hO.drew.alloc (.cells z64 5)).alloc (.cells #[.int .i64 (x : Int), .slice (some ⟨W.heap.size, 0, none⟩) 64 64] 60)).outer)
        have RY : Hid (Rd ((W.drew.alloc (.cells z64 5)).alloc (.cells #[.int .i64 (x : Int), .slice (some ⟨W.heap.size, 0, none⟩) 64 64] 60)) (W.heap.size + 1 + 1) (some ⟨W.heap.size + 1, 0, none⟩) (1 * 2) [.int .i64 (x : Int), .slice (some ⟨W.heap.size, 0, none⟩) 64 64]) := Lib.hid (by have hh := rd_new2 (W.drew.alloc (.cells z64 5)) (.int .i64 (x : Int)) (.slice (some ⟨W.heap.size, 0, none⟩) 64 64) 60; rw [World.size_alloc] at hh; exact hh)
        have N1 := Lib.hid (show L.length + 1 ≤ maxLen by unfold maxLen; omega)
        have N2 := Lib.hid (show (L.length + 1) * 32 ≤ 140737488355328 by omega)
        have N3 := Lib.hid (show w.heap.size ≤ ((W.drew.alloc (.cells z64 5)).alloc (.cells #[.int .i64 (x : Int), .slice (some ⟨W.heap.size, 0, none⟩) 64 64] 60)).heap.size by have h1 := hI.bel.size; have h2 : W.drew.heap.size = W.heap.size := rfl; rw [World.size_alloc, World.size_alloc]; omega)
        have k0 := hlb.cell
        have k1 := (show Blk W.drew (w3.heap.size + 1) 32 #[.slice A0 L.length c0] from hlb).cell
        have k2 := fun o => ((show Blk W.drew (w3.heap.size + 1) 32 #[.slice A0 L.length c0] from hlb).alloc o).cell
        have k3 := fun o o' => (((show Blk W.drew (w3.heap.size + 1) 32 #[.slice A0 L.length c0] from hlb).alloc o).alloc o').cell
        have k4 := fun o => (hlb.alloc o).cell
        have k5 := fun o o' => ((hlb.alloc o).alloc o').cell
        have HI := Lib.hid hI
        have HL := Lib.hid hL
        have HO := Lib.hid hO
        have HLB := Lib.hid hlb
        clear hI hL hO hlb
        gi_wp2
        refine wpIn_region_any (by kernel_rfl) ?_
        change wpAnyIn _ _ _ _ _ _ _ _ _ (World.drew _)
        refine wpAnyIn_ready (rs := [0, 1, 2]) (by kernel_rfl) (by simp) ?_
        refine AllReadyIn.cons rfl (fun K hK => ?_) (AllReadyIn.cons rfl (fun K hK => ?_) (AllReadyIn.cons rfl (fun K hK => ?_) AllReadyIn.nil))
        · skip
          go_simp
          refine hK _ _ ?_
          clear hK K
          try simp only [Act.put, List.setIfInBounds_toArray, List.set_cons_zero, List.set_cons_succ]
          refine wpAnyIn_ready (rs := [1, 2]) (by kernel_rfl) (by simp) ?_
          refine AllReadyIn.cons rfl (fun K hK => ?_) (AllReadyIn.cons rfl (fun K hK => ?_) AllReadyIn.nil)
          · skip
            go_simp
            refine hK _ _ ?_
            clear hK K
            try simp only [Act.put, List.setIfInBounds_toArray, List.set_cons_zero, List.set_cons_succ]
            refine wpAnyIn_ready (rs := [2]) (by kernel_rfl) (by simp) ?_
            refine AllReadyIn.cons rfl (fun K hK => ?_) AllReadyIn.nil
            go_simp
            refine hK _ _ ?_
            clear hK K
            try simp only [Act.put, List.setIfInBounds_toArray, List.set_cons_zero, List.set_cons_succ]
            refine wpAnyIn_ready (rs := [3]) (by kernel_rfl) (by simp) ?_
            refine AllReadyIn.cons rfl (fun K hK => ?_) AllReadyIn.nil
            go_simp
            refine hK _ _ ?_
            clear hK K
            try simp only [Act.put, List.setIfInBounds_toArray, List.set_cons_zero, List.set_cons_succ]
            refine wpAnyIn_ready (rs := [4]) (by kernel_rfl) (by simp) ?_
            refine AllReadyIn.cons rfl (fun K hK => ?_) AllReadyIn.nil
            go_simp
            refine hK _ _ ?_
            clear hK K
            try simp only [Act.put, List.setIfInBounds_toArray, List.set_cons_zero, List.set_cons_succ]
            refine wpAnyIn_ready (rs := [5]) (by kernel_rfl) (by simp) ?_
            refine AllReadyIn.cons rfl (fun K hK => ?_) AllReadyIn.nil
            refine stepIn_append_any _ (by rfl) (.tmp 39) (.tmp 43) 32 (by rfl) w.heap.size 60 i6 (.agg #[.int .i64 0, .slice none 0 0]) 2 32 Tryd.underlying32 hi6 hz6 hs6 hb6 rfl (by omega) (.slice A0 L.length c0) L.length xs (by rfl) OY.out _ (some ⟨W.heap.size + 1, 0, none⟩) 1 1 [.int .i64 (x : Int), .slice (some ⟨W.heap.size, 0, none⟩) 64 64] (by rfl) RY.out (wr_one _ _ _ _) N1.out N2.out N3.out ?_
            intro v9 w9 hown9 hgr9 hat9
            obtain ⟨A9, c9, rfl, g1, g2⟩ := own_form hown9
            have b9 := blk_far hgr9 BY.out OY.out (by decide)
            have cl9 := b9.cell
            have fz9 := b9.frozen
            refine hK _ _ ?_
            clear hK K
            try simp only [Act.put, List.setIfInBounds_toArray, List.set_cons_zero, List.set_cons_succ]
            refine wpAnyIn_ready (rs := [6]) (by kernel_rfl) (by simp) ?_
            refine AllReadyIn.cons rfl (fun K hK => ?_) AllReadyIn.nil
            go_simp
            refine hK _ _ ?_
            clear hK K
            try simp only [Act.put, List.setIfInBounds_toArray, List.set_cons_zero, List.set_cons_succ]
            refine wpAnyIn_done (by kernel_rfl) ?_ _
            gi_wp2
            obtain ⟨K1, K2, K3⟩ := ScI.next (x : Int) HI.out hw34 HLB.out HO.out hown9 hgr9
            exact ⟨K1, K2, by (try dsimp only); rw [wipe_snoc, ← HL.out]; exact K3⟩
          · skip
            go_simp
            refine hK _ _ ?_
            clear hK K
            try simp only [Act.put, List.setIfInBounds_toArray, List.set_cons_zero, List.set_cons_succ]
            refine wpAnyIn_ready (rs := [1]) (by kernel_rfl) (by simp) ?_
            refine AllReadyIn.cons rfl (fun K hK => ?_) AllReadyIn.nil
            go_simp
            refine hK _ _ ?_
            clear hK K
            try simp only [Act.put, List.setIfInBounds_toArray, List.set_cons_zero, List.set_cons_succ]
            refine wpAnyIn_ready (rs := [3]) (by kernel_rfl) (by simp) ?_
            refine AllReadyIn.cons rfl (fun K hK => ?_) AllReadyIn.nil
            go_simp
            refine hK _ _ ?_
            clear hK K
            try simp only [Act.put, List.setIfInBounds_toArray, List.set_cons_zero, List.set_cons_succ]
            refine wpAnyIn_ready (rs := [4]) (by kernel_rfl) (by simp) ?_
            refine AllReadyIn.cons rfl (fun K hK => ?_) AllReadyIn.nil
            go_simp
            refine hK _ _ ?_
            clear hK K
            try simp only [Act.put, List.setIfInBounds_toArray, List.set_cons_zero, List.set_cons_succ]
            refine wpAnyIn_ready (rs := [5]) (by kernel_rfl) (by simp) ?_
            refine AllReadyIn.cons rfl (fun K hK => ?_) AllReadyIn.nil
            refine stepIn_append_any _ (by rfl) (.tmp 39) (.tmp 43) 32 (by rfl) w.heap.size 60 i6 (.agg #[.int .i64 0, .slice none 0 0]) 2 32 Tryd.underlying32 hi6 hz6 hs6 hb6 rfl (by omega) (.slice A0 L.length c0) L.length xs (by rfl) OY.out _ (some ⟨W.heap.size + 1, 0, none⟩) 1 1 [.int .i64 (x : Int), .slice (some ⟨W.heap.size, 0, none⟩) 64 64] (by rfl) RY.out (wr_one _ _ _ _) N1.out N2.out N3.out ?_
            intro v9 w9 hown9 hgr9 hat9
            obtain ⟨A9, c9, rfl, g1, g2⟩ := own_form hown9
            have b9 := blk_far hgr9 BY.out OY.out (by decide)
            have cl9 := b9.cell
            have fz9 := b9.frozen
            refine hK _ _ ?_
            clear hK K
            try simp only [Act.put, List.setIfInBounds_toArray, List.set_cons_zero, List.set_cons_succ]
            refine wpAnyIn_ready (rs := [6]) (by kernel_rfl) (by simp) ?_
            refine AllReadyIn.cons rfl (fun K hK => ?_) AllReadyIn.nil
            go_simp
            refine hK _ _ ?_
            clear hK K
            try simp only [Act.put, List.setIfInBounds_toArray, List.set_cons_zero, List.set_cons_succ]
            refine wpAnyIn_done (by kernel_rfl) ?_ _
            gi_wp2
            obtain ⟨K1, K2, K3⟩ := ScI.next (x : Int) HI.out hw34 HLB.out HO.out hown9 hgr9
            exact ⟨K1, K2, by (try dsimp only); rw [wipe_snoc, ← HL.out]; exact K3⟩
        · skip
          go_simp
          refine hK _ _ ?_
          clear hK K
          try simp only [Act.put, List.setIfInBounds_toArray, List.set_cons_zero, List.set_cons_succ]
          refine wpAnyIn_ready (rs := [0, 2]) (by kernel_rfl) (by simp) ?_
          refine AllReadyIn.cons rfl (fun K hK => ?_) (AllReadyIn.cons rfl (fun K hK => ?_) AllReadyIn.nil)
          · skip
            go_simp
            refine hK _ _ ?_
            clear hK K
            try simp only [Act.put, List.setIfInBounds_toArray, List.set_cons_zero, List.set_cons_succ]
            refine wpAnyIn_ready (rs := [2]) (by kernel_rfl) (by simp) ?_
            refine AllReadyIn.cons rfl (fun K hK => ?_) AllReadyIn.nil
            go_simp
            refine hK _ _ ?_
            clear hK K
            try simp only [Act.put, List.setIfInBounds_toArray, List.set_cons_zero, List.set_cons_succ]
            refine wpAnyIn_ready (rs := [3]) (by kernel_rfl) (by simp) ?_
            refine AllReadyIn.cons rfl (fun K hK => ?_) AllReadyIn.nil
            go_simp
            refine hK _ _ ?_
            clear hK K
            try simp only [Act.put, List.setIfInBounds_toArray, List.set_cons_zero, List.set_cons_succ]
            refine wpAnyIn_ready (rs := [4]) (by kernel_rfl) (by simp) ?_
            refine AllReadyIn.cons rfl (fun K hK => ?_) AllReadyIn.nil
            go_simp
            refine hK _ _ ?_
            clear hK K
            try simp only [Act.put, List.setIfInBounds_toArray, List.set_cons_zero, List.set_cons_succ]
            refine wpAnyIn_ready (rs := [5]) (by kernel_rfl) (by simp) ?_
            refine AllReadyIn.cons rfl (fun K hK => ?_) AllReadyIn.nil
            refine stepIn_append_any _ (by rfl) (.tmp 39) (.tmp 43) 32 (by rfl) w.heap.size 60 i6 (.agg #[.int .i64 0, .slice none 0 0]) 2 32 Tryd.underlying32 hi6 hz6 hs6 hb6 rfl (by omega) (.slice A0 L.length c0) L.length xs (by rfl) OY.out _ (some ⟨W.heap.size + 1, 0, none⟩) 1 1 [.int .i64 (x : Int), .slice (some ⟨W.heap.size, 0, none⟩) 64 64] (by rfl) RY.out (wr_one _ _ _ _) N1.out N2.out N3.out ?_
            intro v9 w9 hown9 hgr9 hat9
            obtain ⟨A9, c9, rfl, g1, g2⟩ := own_form hown9
            have b9 := blk_far hgr9 BY.out OY.out (by decide)
            have cl9 := b9.cell
            have fz9 := b9.frozen
            refine hK _ _ ?_
            clear hK K
            try simp only [Act.put, List.setIfInBounds_toArray, List.set_cons_zero, List.set_cons_succ]
            refine wpAnyIn_ready (rs := [6]) (by kernel_rfl) (by simp) ?_
            refine AllReadyIn.cons rfl (fun K hK => ?_) AllReadyIn.nil
            go_simp
            refine hK _ _ ?_
            clear hK K
            try simp only [Act.put, List.setIfInBounds_toArray, List.set_cons_zero, List.set_cons_succ]
            refine wpAnyIn_done (by kernel_rfl) ?_ _
            gi_wp2
            obtain ⟨K1, K2, K3⟩ := ScI.next (x : Int) HI.out hw34 HLB.out HO.out hown9 hgr9
            exact ⟨K1, K2, by (try dsimp only); rw [wipe_snoc, ← HL.out]; exact K3⟩
          · skip
            go_simp
            refine hK _ _ ?_
            clear hK K
            try simp only [Act.put, List.setIfInBounds_toArray, List.set_cons_zero, List.set_cons_succ]
            refine wpAnyIn_ready (rs := [0, 3]) (by kernel_rfl) (by simp) ?_
            refine AllReadyIn.cons rfl (fun K hK => ?_) (AllReadyIn.cons rfl (fun K hK => ?_) AllReadyIn.nil)
            · skip
              go_simp
              refine hK _ _ ?_
              clear hK K
              try simp only [Act.put, List.setIfInBounds_toArray, List.set_cons_zero, List.set_cons_succ]
              refine wpAnyIn_ready (rs := [3]) (by kernel_rfl) (by simp) ?_
              refine AllReadyIn.cons rfl (fun K hK => ?_) AllReadyIn.nil
              go_simp
              refine hK _ _ ?_
              clear hK K
              try simp only [Act.put, List.setIfInBounds_toArray, List.set_cons_zero, List.set_cons_succ]
              refine wpAnyIn_ready (rs := [4]) (by kernel_rfl) (by simp) ?_
              refine AllReadyIn.cons rfl (fun K hK => ?_) AllReadyIn.nil
              go_simp
              refine hK _ _ ?_
              clear hK K
              try simp only [Act.put, List.setIfInBounds_toArray, List.set_cons_zero, List.set_cons_succ]
              refine wpAnyIn_ready (rs := [5]) (by kernel_rfl) (by simp) ?_
              refine AllReadyIn.cons rfl (fun K hK => ?_) AllReadyIn.nil
              refine stepIn_append_any _ (by rfl) (.tmp 39) (.tmp 43) 32 (by rfl) w.heap.size 60 i6 (.agg #[.int .i64 0, .slice none 0 0]) 2 32 Tryd.underlying32 hi6 hz6 hs6 hb6 rfl (by omega) (.slice A0 L.length c0) L.length xs (by rfl) OY.out _ (some ⟨W.heap.size + 1, 0, none⟩) 1 1 [.int .i64 (x : Int), .slice (some ⟨W.heap.size, 0, none⟩) 64 64] (by rfl) RY.out (wr_one _ _ _ _) N1.out N2.out N3.out ?_
              intro v9 w9 hown9 hgr9 hat9
              obtain ⟨A9, c9, rfl, g1, g2⟩ := own_form hown9
              have b9 := blk_far hgr9 BY.out OY.out (by decide)
              have cl9 := b9.cell
              have fz9 := b9.frozen
              refine hK _ _ ?_
              clear hK K
              try simp only [Act.put, List.setIfInBounds_toArray, List.set_cons_zero, List.set_cons_succ]
              refine wpAnyIn_ready (rs := [6]) (by kernel_rfl) (by simp) ?_
              refine AllReadyIn.cons rfl (fun K hK => ?_) AllReadyIn.nil
              go_simp
              refine hK _ _ ?_
              clear hK K
              try simp only [Act.put, List.setIfInBounds_toArray, List.set_cons_zero, List.set_cons_succ]
              refine wpAnyIn_done (by kernel_rfl) ?_ _
              gi_wp2
              obtain ⟨K1, K2, K3⟩ := ScI.next (x : Int) HI.out hw34 HLB.out HO.out hown9 hgr9
              exact ⟨K1, K2, by (try dsimp only); rw [wipe_snoc, ← HL.out]; exact K3⟩
            · skip
              go_simp
              refine hK _ _ ?_
              clear hK K
              try simp only [Act.put, List.setIfInBounds_toArray, List.set_cons_zero, List.set_cons_succ]
              refine wpAnyIn_ready (rs := [0, 4]) (by kernel_rfl) (by simp) ?_
              refine AllReadyIn.cons rfl (fun K hK => ?_) (AllReadyIn.cons rfl (fun K hK => ?_) AllReadyIn.nil)
              · skip
                go_simp
                refine hK _ _ ?_
                clear hK K
                try simp only [Act.put, List.setIfInBounds_toArray, List.set_cons_zero, List.set_cons_succ]
                refine wpAnyIn_ready (rs := [4]) (by kernel_rfl) (by simp) ?_
                refine AllReadyIn.cons rfl (fun K hK => ?_) AllReadyIn.nil
                go_simp
                refine hK _ _ ?_
                clear hK K
                try simp only [Act.put, List.setIfInBounds_toArray, List.set_cons_zero, List.set_cons_succ]
                refine wpAnyIn_ready (rs := [5]) (by kernel_rfl) (by simp) ?_
                refine AllReadyIn.cons rfl (fun K hK => ?_) AllReadyIn.nil
                refine stepIn_append_any _ (by rfl) (.tmp 39) (.tmp 43) 32 (by rfl) w.heap.size 60 i6 (.agg #[.int .i64 0, .slice none 0 0]) 2 32 Tryd.underlying32 hi6 hz6 hs6 hb6 rfl (by omega) (.slice A0 L.length c0) L.length xs (by rfl) OY.out _ (some ⟨W.heap.size + 1, 0, none⟩) 1 1 [.int .i64 (x : Int), .slice (some ⟨W.heap.size, 0, none⟩) 64 64] (by rfl) RY.out (wr_one _ _ _ _) N1.out N2.out N3.out ?_
                intro v9 w9 hown9 hgr9 hat9
                obtain ⟨A9, c9, rfl, g1, g2⟩ := own_form hown9
                have b9 := blk_far hgr9 BY.out OY.out (by decide)
                have cl9 := b9.cell
                have fz9 := b9.frozen
                refine hK _ _ ?_
                clear hK K
                try simp only [Act.put, List.setIfInBounds_toArray, List.set_cons_zero, List.set_cons_succ]
                refine wpAnyIn_ready (rs := [6]) (by kernel_rfl) (by simp) ?_
                refine AllReadyIn.cons rfl (fun K hK => ?_) AllReadyIn.nil
                go_simp
                refine hK _ _ ?_
                clear hK K
                try simp only [Act.put, List.setIfInBounds_toArray, List.set_cons_zero, List.set_cons_succ]
                refine wpAnyIn_done (by kernel_rfl) ?_ _
                gi_wp2
                obtain ⟨K1, K2, K3⟩ := ScI.next (x : Int) HI.out hw34 HLB.out HO.out hown9 hgr9
                exact ⟨K1, K2, by (try dsimp only); rw [wipe_snoc, ← HL.out]; exact K3⟩
              · skip
                go_simp
                refine hK _ _ ?_
                clear hK K
                try simp only [Act.put, List.setIfInBounds_toArray, List.set_cons_zero, List.set_cons_succ]
                refine wpAnyIn_ready (rs := [0]) (by kernel_rfl) (by simp) ?_
                refine AllReadyIn.cons rfl (fun K hK => ?_) AllReadyIn.nil
                go_simp
                refine hK _ _ ?_
                clear hK K
                try simp only [Act.put, List.setIfInBounds_toArray, List.set_cons_zero, List.set_cons_succ]
                refine wpAnyIn_ready (rs := [5]) (by kernel_rfl) (by simp) ?_
                refine AllReadyIn.cons rfl (fun K hK => ?_) AllReadyIn.nil
                refine stepIn_append_any _ (by rfl) (.tmp 39) (.tmp 43) 32 (by rfl) w.heap.size 60 i6 (.agg #[.int .i64 0, .slice none 0 0]) 2 32 Tryd.underlying32 hi6 hz6 hs6 hb6 rfl (by omega) (.slice A0 L.length c0) L.length xs (by rfl) OY.out _ (some ⟨W.heap.size + 1, 0, none⟩) 1 1 [.int .i64 (x : Int), .slice (some ⟨W.heap.size, 0, none⟩) 64 64] (by rfl) RY.out (wr_one _ _ _ _) N1.out N2.out N3.out ?_
                intro v9 w9 hown9 hgr9 hat9
                obtain ⟨A9, c9, rfl, g1, g2⟩ := own_form hown9
                have b9 := blk_far hgr9 BY.out OY.out (by decide)
                have cl9 := b9.cell
                have fz9 := b9.frozen
                refine hK _ _ ?_
                clear hK K
                try simp only [Act.put, List.setIfInBounds_toArray, List.set_cons_zero, List.set_cons_succ]
                refine wpAnyIn_ready (rs := [6]) (by kernel_rfl) (by simp) ?_
                refine AllReadyIn.cons rfl (fun K hK => ?_) AllReadyIn.nil
                go_simp
                refine hK _ _ ?_
                clear hK K
                try simp only [Act.put, List.setIfInBounds_toArray, List.set_cons_zero, List.set_cons_succ]
                refine wpAnyIn_done (by kernel_rfl) ?_ _
                gi_wp2
                obtain ⟨K1, K2, K3⟩ := ScI.next (x : Int) HI.out hw34 HLB.out HO.out hown9 hgr9
                exact ⟨K1, K2, by (try dsimp only); rw [wipe_snoc, ← HL.out]; exact K3⟩
        · skip
          go_simp
          refine hK _ _ ?_
          clear hK K
          try simp only [Act.put, List.setIfInBounds_toArray, List.set_cons_zero, List.set_cons_succ]
          refine wpAnyIn_ready (rs := [0, 1]) (by kernel_rfl) (by simp) ?_
          refine AllReadyIn.cons rfl (fun K hK => ?_) (AllReadyIn.cons rfl (fun K hK => ?_) AllReadyIn.nil)
          · skip
            go_simp
            refine hK _ _ ?_
            clear hK K
            try simp only [Act.put, List.setIfInBounds_toArray, List.set_cons_zero, List.set_cons_succ]
            refine wpAnyIn_ready (rs := [1]) (by kernel_rfl) (by simp) ?_
            refine AllReadyIn.cons rfl (fun K hK => ?_) AllReadyIn.nil
            go_simp
            refine hK _ _ ?_
            clear hK K
            try simp only [Act.put, List.setIfInBounds_toArray, List.set_cons_zero, List.set_cons_succ]
            refine wpAnyIn_ready (rs := [3]) (by kernel_rfl) (by simp) ?_
            refine AllReadyIn.cons rfl (fun K hK => ?_) AllReadyIn.nil
            go_simp
            refine hK _ _ ?_
            clear hK K
            try simp only [Act.put, List.setIfInBounds_toArray, List.set_cons_zero, List.set_cons_succ]
            refine wpAnyIn_ready (rs := [4]) (by kernel_rfl) (by simp) ?_
            refine AllReadyIn.cons rfl (fun K hK => ?_) AllReadyIn.nil
            go_simp
            refine hK _ _ ?_
            clear hK K
            try simp only [Act.put, List.setIfInBounds_toArray, List.set_cons_zero, List.set_cons_succ]
            refine wpAnyIn_ready (rs := [5]) (by kernel_rfl) (by simp) ?_
            refine AllReadyIn.cons rfl (fun K hK => ?_) AllReadyIn.nil
            refine stepIn_append_any _ (by rfl) (.tmp 39) (.tmp 43) 32 (by rfl) w.heap.size 60 i6 (.agg #[.int .i64 0, .slice none 0 0]) 2 32 Tryd.underlying32 hi6 hz6 hs6 hb6 rfl (by omega) (.slice A0 L.length c0) L.length xs (by rfl) OY.out _ (some ⟨W.heap.size + 1, 0, none⟩) 1 1 [.int .i64 (x : Int), .slice (some ⟨W.heap.size, 0, none⟩) 64 64] (by rfl) RY.out (wr_one _ _ _ _) N1.out N2.out N3.out ?_
            intro v9 w9 hown9 hgr9 hat9
            obtain ⟨A9, c9, rfl, g1, g2⟩ := own_form hown9
            have b9 := blk_far hgr9 BY.out OY.out (by decide)
            have cl9 := b9.cell
            have fz9 := b9.frozen
            refine hK _ _ ?_
            clear hK K
            try simp only [Act.put, List.setIfInBounds_toArray, List.set_cons_zero, List.set_cons_succ]
            refine wpAnyIn_ready (rs := [6]) (by kernel_rfl) (by simp) ?_
            refine AllReadyIn.cons rfl (fun K hK => ?_) AllReadyIn.nil
            go_simp
            refine hK _ _ ?_
            clear hK K
            try simp only [Act.put, List.setIfInBounds_toArray, List.set_cons_zero, List.set_cons_succ]
            refine wpAnyIn_done (by kernel_rfl) ?_ _
            gi_wp2
            obtain ⟨K1, K2, K3⟩ := ScI.next (x : Int) HI.out hw34 HLB.out HO.out hown9 hgr9
            exact ⟨K1, K2, by (try dsimp only); rw [wipe_snoc, ← HL.out]; exact K3⟩
          · skip
            go_simp
            refine hK _ _ ?_
            clear hK K
            try simp only [Act.put, List.setIfInBounds_toArray, List.set_cons_zero, List.set_cons_succ]
            refine wpAnyIn_ready (rs := [0, 3]) (by kernel_rfl) (by simp) ?_
            refine AllReadyIn.cons rfl (fun K hK => ?_) (AllReadyIn.cons rfl (fun K hK => ?_) AllReadyIn.nil)
            · skip
              go_simp
              refine hK _ _ ?_
              clear hK K
              try simp only [Act.put, List.setIfInBounds_toArray, List.set_cons_zero, List.set_cons_succ]
              refine wpAnyIn_ready (rs := [3]) (by kernel_rfl) (by simp) ?_
              refine AllReadyIn.cons rfl (fun K hK => ?_) AllReadyIn.nil
              go_simp
              refine hK _ _ ?_
              clear hK K
              try simp only [Act.put, List.setIfInBounds_toArray, List.set_cons_zero, List.set_cons_succ]
              refine wpAnyIn_ready (rs := [4]) (by kernel_rfl) (by simp) ?_
              refine AllReadyIn.cons rfl (fun K hK => ?_) AllReadyIn.nil
              go_simp
              refine hK _ _ ?_
              clear hK K
              try simp only [Act.put, List.setIfInBounds_toArray, List.set_cons_zero, List.set_cons_succ]
              refine wpAnyIn_ready (rs := [5]) (by kernel_rfl) (by simp) ?_
              refine AllReadyIn.cons rfl (fun K hK => ?_) AllReadyIn.nil
              refine stepIn_append_any _ (by rfl) (.tmp 39) (.tmp 43) 32 (by rfl) w.heap.size 60 i6 (.agg #[.int .i64 0, .slice none 0 0]) 2 32 Tryd.underlying32 hi6 hz6 hs6 hb6 rfl (by omega) (.slice A0 L.length c0) L.length xs (by rfl) OY.out _ (some ⟨W.heap.size + 1, 0, none⟩) 1 1 [.int .i64 (x : Int), .slice (some ⟨W.heap.size, 0, none⟩) 64 64] (by rfl) RY.out (wr_one _ _ _ _) N1.out N2.out N3.out ?_
              intro v9 w9 hown9 hgr9 hat9
              obtain ⟨A9, c9, rfl, g1, g2⟩ := own_form hown9
              have b9 := blk_far hgr9 BY.out OY.out (by decide)
              have cl9 := b9.cell
              have fz9 := b9.frozen
              refine hK _ _ ?_
              clear hK K
              try simp only [Act.put, List.setIfInBounds_toArray, List.set_cons_zero, List.set_cons_succ]
              refine wpAnyIn_ready (rs := [6]) (by kernel_rfl) (by simp) ?_
              refine AllReadyIn.cons rfl (fun K hK => ?_) AllReadyIn.nil
              go_simp
              refine hK _ _ ?_
              clear hK K
              try simp only [Act.put, List.setIfInBounds_toArray, List.set_cons_zero, List.set_cons_succ]
              refine wpAnyIn_done (by kernel_rfl) ?_ _
              gi_wp2
              obtain ⟨K1, K2, K3⟩ := ScI.next (x : Int) HI.out hw34 HLB.out HO.out hown9 hgr9
              exact ⟨K1, K2, by (try dsimp only); rw [wipe_snoc, ← HL.out]; exact K3⟩
            · skip
              go_simp
              refine hK _ _ ?_
              clear hK K
              try simp only [Act.put, List.setIfInBounds_toArray, List.set_cons_zero, List.set_cons_succ]
              refine wpAnyIn_ready (rs := [0, 4]) (by kernel_rfl) (by simp) ?_
              refine AllReadyIn.cons rfl (fun K hK => ?_) (AllReadyIn.cons rfl (fun K hK => ?_) AllReadyIn.nil)
              · skip
                go_simp
                refine hK _ _ ?_
                clear hK K
                try simp only [Act.put, List.setIfInBounds_toArray, List.set_cons_zero, List.set_cons_succ]
                refine wpAnyIn_ready (rs := [4]) (by kernel_rfl) (by simp) ?_
                refine AllReadyIn.cons rfl (fun K hK => ?_) AllReadyIn.nil
                go_simp
                refine hK _ _ ?_
                clear hK K
                try simp only [Act.put, List.setIfInBounds_toArray, List.set_cons_zero, List.set_cons_succ]
                refine wpAnyIn_ready (rs := [5]) (by kernel_rfl) (by simp) ?_
                refine AllReadyIn.cons rfl (fun K hK => ?_) AllReadyIn.nil
                refine stepIn_append_any _ (by rfl) (.tmp 39) (.tmp 43) 32 (by rfl) w.heap.size 60 i6 (.agg #[.int .i64 0, .slice none 0 0]) 2 32 Tryd.underlying32 hi6 hz6 hs6 hb6 rfl (by omega) (.slice A0 L.length c0) L.length xs (by rfl) OY.out _ (some ⟨W.heap.size + 1, 0, none⟩) 1 1 [.int .i64 (x : Int), .slice (some ⟨W.heap.size, 0, none⟩) 64 64] (by rfl) RY.out (wr_one _ _ _ _) N1.out N2.out N3.out ?_
                intro v9 w9 hown9 hgr9 hat9
                obtain ⟨A9, c9, rfl, g1, g2⟩ := own_form hown9
                have b9 := blk_far hgr9 BY.out OY.out (by decide)
                have cl9 := b9.cell
                have fz9 := b9.frozen
                refine hK _ _ ?_
                clear hK K
                try simp only [Act.put, List.setIfInBounds_toArray, List.set_cons_zero, List.set_cons_succ]
                refine wpAnyIn_ready (rs := [6]) (by kernel_rfl) (by simp) ?_
                refine AllReadyIn.cons rfl (fun K hK => ?_) AllReadyIn.nil
                go_simp
                refine hK _ _ ?_
                clear hK K
                try simp only [Act.put, List.setIfInBounds_toArray, List.set_cons_zero, List.set_cons_succ]
                refine wpAnyIn_done (by kernel_rfl) ?_ _
                gi_wp2
                obtain ⟨K1, K2, K3⟩ := ScI.next (x : Int) HI.out hw34 HLB.out HO.out hown9 hgr9
                exact ⟨K1, K2, by (try dsimp only); rw [wipe_snoc, ← HL.out]; exact K3⟩
              · skip
                go_simp
                refine hK _ _ ?_
                clear hK K
                try simp only [Act.put, List.setIfInBounds_toArray, List.set_cons_zero, List.set_cons_succ]
                refine wpAnyIn_ready (rs := [0]) (by kernel_rfl) (by simp) ?_
                refine AllReadyIn.cons rfl (fun K hK => ?_) AllReadyIn.nil
                go_simp
                refine hK _ _ ?_
                clear hK K
                try simp only [Act.put, List.setIfInBounds_toArray, List.set_cons_zero, List.set_cons_succ]
                refine wpAnyIn_ready (rs := [5]) (by kernel_rfl) (by simp) ?_
                refine AllReadyIn.cons rfl (fun K hK => ?_) AllReadyIn.nil
                refine stepIn_append_any _ (by rfl) (.tmp 39) (.tmp 43) 32 (by rfl) w.heap.size 60 i6 (.agg #[.int .i64 0, .slice none 0 0]) 2 32 Tryd.underlying32 hi6 hz6 hs6 hb6 rfl (by omega) (.slice A0 L.length c0) L.length xs (by rfl) OY.out _ (some ⟨W.heap.size + 1, 0, none⟩) 1 1 [.int .i64 (x : Int), .slice (some ⟨W.heap.size, 0, none⟩) 64 64] (by rfl) RY.out (wr_one _ _ _ _) N1.out N2.out N3.out ?_
                intro v9 w9 hown9 hgr9 hat9
                obtain ⟨A9, c9, rfl, g1, g2⟩ := own_form hown9
                have b9 := blk_far hgr9 BY.out OY.out (by decide)
                have cl9 := b9.cell
                have fz9 := b9.frozen
                refine hK _ _ ?_
                clear hK K
                try simp only [Act.put, List.setIfInBounds_toArray, List.set_cons_zero, List.set_cons_succ]
                refine wpAnyIn_ready (rs := [6]) (by kernel_rfl) (by simp) ?_
                refine AllReadyIn.cons rfl (fun K hK => ?_) AllReadyIn.nil
                go_simp
                refine hK _ _ ?_
                clear hK K
                try simp only [Act.put, List.setIfInBounds_toArray, List.set_cons_zero, List.set_cons_succ]
                refine wpAnyIn_done (by kernel_rfl) ?_ _
                gi_wp2
                obtain ⟨K1, K2, K3⟩ := ScI.next (x : Int) HI.out hw34 HLB.out HO.out hown9 hgr9
                exact ⟨K1, K2, by (try dsimp only); rw [wipe_snoc, ← HL.out]; exact K3⟩
      case done =>
        rintro D ys W hD rfl hI hKD
        have hDl := (Array.getElem?_eq_some_iff.1 hKD).1
        have HI := Lib.hid hI
        have HKD := Lib.hid hKD
        have q0 := hI.db.cell
        have ct := hI.tb.cell
        clear hI hKD
        gi_wp2_with (first
          | (refine ⟨trivial, ?_⟩; gi_at_call 15; refine (callsIn_wide.2 (area_any _ _ _)).mono ?_; rw [HAR.out]; rintro e w6 ⟨rfl, hB6⟩; have HI6 := Lib.hid (HI.out.after hB6); have HKD6 := Lib.hid ((hB6.block D hDl).trans HKD.out); have hsz6 := hB6.size; clear hB6 q0 ct; have q0 := HI6.out.db.cell; have ct := HI6.out.tb.cell)
          | (refine ⟨trivial, ?_⟩; gi_at_call 35; refine (dirty_in _ A d.secs.length c d.left d.torn d.off d.done ((a : Int) + 1 + (u : Int)) ((a : Int) + (h : Int)) _).mono ?_; rintro e w7 ⟨rfl, rfl⟩))
        clear q0 ct
        have e1 := iter_boxes w6 #[.slice A d.secs.length c, .int .i64 d.left, .int .i64 d.torn, .bool d.off, .int .i64 d.done] ((a : Int) + 1 + (u : Int)) ((a : Int) + (h : Int))
        obtain ⟨eD, eF, eT, eB, eS⟩ := e1
        have ED2 := Lib.hid eD
        have EF2 := Lib.hid eF
        have ET2 := Lib.hid eT
        have HI7 := Lib.hid (HI6.out.after eB)
        have HKD7 := Lib.hid ((eB.block D (by omega)).trans HKD6.out)
        generalize (((w6.alloc (.cells #[.slice A d.secs.length c, .int .i64 d.left, .int .i64 d.torn, .bool d.off, .int .i64 d.done] 24)).alloc (.cells #[.int .i64 ((a : Int) + 1 + (u : Int))] 3)).alloc (.cells #[.int .i64 ((a : Int) + (h : Int))] 3)) = W7 at ED2 EF2 ET2 HI7 HKD7 eS ⊢
        clear eD eF eT eB HI HKD HI6 HKD6
        have hwW7 : w.heap.size ≤ W7.heap.size := HI7.out.bel.size
        have hw6s : w6.heap.size + 3 ≤ W7.heap.size := by omega
        have hDW : D < W7.heap.size := by omega
        have hsum : ((a + 1 + u + (h - 1 - u) : Nat) : Int) = (a : Int) + (h : Int) := by omega
        obtain ⟨d1, hd1⟩ : ∃ d1, d1 = wipe (dts d.secs a1 h) := ⟨_, rfl⟩
        have hd1l : d1.length ≤ 2048 := by rw [hd1, wipe_len]; have := dts_len d.secs a1 h; omega
        rw [← hd1] at HI7
        have HD1 := Lib.hid hd1
        clear hd1
        refine wpIn_rangeFunc_ownF rfl hx1 (gf := 50) (lb := #[.pointer (some ⟨w6.heap.size + 1, 0, none⟩), .pointer (some ⟨w6.heap.size + 1 + 1, 0, none⟩), .pointer (some ⟨w6.heap.size, 0, none⟩)]) rfl trivial (enters_of Tryd.func50 (by kernel_rfl) rfl)
          (dirty_stops 4 (by omega) (w6.heap.size + 1) (w6.heap.size + 1 + 1) w6.heap.size w.heap.size A c d (a + 1 + u) (h - 1 - u) (by omega) HCK.out W7 hwW7 ((EF2.out.cell 0).trans (by simp)) ((ET2.out.cell 0).trans (by rw [hsum]; rfl)) (ED2.out.cell 0) EF2.out.lt ET2.out.lt ED2.out.lt (HDD.out.below HI7.out.bel))
          KpD.trans (fun W l o o' hl hw hc hk => kpd_turn (w := W7) hwW7 (by omega) (by omega) W l o o' hl hw hc hk) (Below.refl _ _) (fun _ => rfl)
          (fun pre W => ScI w W (w3.heap.size + 1) w3.heap.size (w6.heap.size + 1 + 1) w6.heap.size W7.heap.size #[.slice A d.secs.length c, .int .i64 d.left, .int .i64 d.torn, .bool d.off, .int .i64 d.done] #[.int .i64 (k : Int), .int .i64 (n : Int), .int .i64 (m : Int)] #[.int .i64 ((a : Int) + (h : Int))] (d1 ++ wipe pre) ∧ W.heap[D]? = some (.deferred (some [])))
          (fun _ _ _ => False)
          (fun s X Y row hs hg hr => ⟨hs.1.turned hg (fun r e => ⟨Nat.le_trans hwW7 (hr r e).1, (hr r e).2⟩), (hg.block D (Array.getElem?_eq_some_iff.1 hs.2).1 (fun e => by have := (hr D e.symm).1; omega)).trans hs.2⟩)
          (fun _ _ _ _ _ hs _ _ => hs)
          ⟨⟨by simpa [wipe] using HI7.out.lb, HI7.out.db, HI7.out.tb, ET2.out, ED2.out, HI7.out.bel, Nat.le_refl _⟩, HKD7.out⟩
          ?a2 ?assign2 ?body2 ?done2 ?stop2
        case assign2 =>
          intro l x W K hK
          gi_wp2
          exact hK
        case stop2 =>
          rintro D c pre W _ _ h _
          exact h.elim
        case body2 =>
          rintro l pre x W ⟨hI, hKD1⟩ hlt
          have HKD1 := Lib.hid hKD1
          clear hKD1
          obtain ⟨A0, c0, xs, hlb, hO⟩ := hI.lb
          obtain ⟨L, hL⟩ : ∃ L, L = d1 ++ wipe pre := ⟨_, rfl⟩
          have hLl : L.length ≤ 5000 := by rw [hL]; rw [List.length_append, wipe_len]; omega
          rw [← hL] at hI hlb hO
          have BY := Lib.hid (((show Blk W.drew (w3.heap.size + 1) 32 #[.slice A0 L.length c0] from hlb).alloc (.cells z64 5)).alloc (.cells #[.int .i64 (x : Int), .slice (some ⟨W.heap.size, 0, none⟩) 64 64] 60))
          have OY := Lib.hid (((hO.drew.alloc (.cells z64 5)).alloc (.cells #[.int .i64 (x : Int), .slice (some ⟨W.heap.size, 0, none⟩) 64 64] 60)).outer)
          have RY : Hid (Rd ((W.drew.alloc (.cells z64 5)).alloc (.cells #[.int .i64 (x : Int), .slice (some ⟨W.heap.size, 0, none⟩) 64 64] 60)) (W.heap.size + 1 + 1) (some ⟨W.heap.size + 1, 0, none⟩) (1 * 2) [.int .i64 (x : Int), .slice (some ⟨W.heap.size, 0, none⟩) 64 64]) := Lib.hid (by have hh := rd_new2 (W.drew.alloc (.cells z64 5)) (.int .i64 (x : Int)) (.slice (some ⟨W.heap.size, 0, none⟩) 64 64) 60; rw [World.size_alloc] at hh; exact hh)
          have N1 := Lib.hid (show L.length + 1 ≤ maxLen by unfold maxLen; omega)
          have N2 := Lib.hid (show (L.length + 1) * 32 ≤ 140737488355328 by omega)
          have N3 := Lib.hid (show w.heap.size ≤ ((W.drew.alloc (.cells z64 5)).alloc (.cells #[.int .i64 (x : Int), .slice (some ⟨W.heap.size, 0, none⟩) 64 64] 60)).heap.size by have h1 := hI.bel.size; have h2 : W.drew.heap.size = W.heap.size := rfl; rw [World.size_alloc, World.size_alloc]; omega)
          have k0 := hlb.cell
          have k1 := (show Blk W.drew (w3.heap.size + 1) 32 #[.slice A0 L.length c0] from hlb).cell
          have k2 := fun o => ((show Blk W.drew (w3.heap.size + 1) 32 #[.slice A0 L.length c0] from hlb).alloc o).cell
          have k3 := fun o o' => (((show Blk W.drew (w3.heap.size + 1) 32 #[.slice A0 L.length c0] from hlb).alloc o).alloc o').cell
          have k4 := fun o => (hlb.alloc o).cell
          have k5 := fun o o' => ((hlb.alloc o).alloc o').cell
          have HI := Lib.hid hI
          have HL := Lib.hid hL
          have HO := Lib.hid hO
          have HLB := Lib.hid hlb
          clear hI hL hO hlb
          gi_wp2
          refine wpIn_region_any (by kernel_rfl) ?_
          change wpAnyIn _ _ _ _ _ _ _ _ _ (World.drew _)
          refine wpAnyIn_ready (rs := [0, 1, 2]) (by kernel_rfl) (by simp) ?_
          refine AllReadyIn.cons rfl (fun K hK => ?_) (AllReadyIn.cons rfl (fun K hK => ?_) (AllReadyIn.cons rfl (fun K hK => ?_) AllReadyIn.nil))
          · skip
            go_simp
            refine hK _ _ ?_
            clear hK K
            try simp only [Act.put, List.setIfInBounds_toArray, List.set_cons_zero, List.set_cons_succ]
            refine wpAnyIn_ready (rs := [1, 2]) (by kernel_rfl) (by simp) ?_
            refine AllReadyIn.cons rfl (fun K hK => ?_) (AllReadyIn.cons rfl (fun K hK => ?_) AllReadyIn.nil)
            · skip
              go_simp
              refine hK _ _ ?_
              clear hK K
              try simp only [Act.put, List.setIfInBounds_toArray, List.set_cons_zero, List.set_cons_succ]
              refine wpAnyIn_ready (rs := [2]) (by kernel_rfl) (by simp) ?_
              refine AllReadyIn.cons rfl (fun K hK => ?_) AllReadyIn.nil
              go_simp
              refine hK _ _ ?_
              clear hK K
              try simp only [Act.put, List.setIfInBounds_toArray, List.set_cons_zero, List.set_cons_succ]
              refine wpAnyIn_ready (rs := [3]) (by kernel_rfl) (by simp) ?_
              refine AllReadyIn.cons rfl (fun K hK => ?_) AllReadyIn.nil
              go_simp
              refine hK _ _ ?_
              clear hK K
              try simp only [Act.put, List.setIfInBounds_toArray, List.set_cons_zero, List.set_cons_succ]
              refine wpAnyIn_ready (rs := [4]) (by kernel_rfl) (by simp) ?_
              refine AllReadyIn.cons rfl (fun K hK => ?_) AllReadyIn.nil
              go_simp
              refine hK _ _ ?_
              clear hK K
              try simp only [Act.put, List.setIfInBounds_toArray, List.set_cons_zero, List.set_cons_succ]
              refine wpAnyIn_ready (rs := [5]) (by kernel_rfl) (by simp) ?_
              refine AllReadyIn.cons rfl (fun K hK => ?_) AllReadyIn.nil
              refine stepIn_append_any _ (by rfl) (.tmp 69) (.tmp 73) 32 (by rfl) w.heap.size 60 i6 (.agg #[.int .i64 0, .slice none 0 0]) 2 32 Tryd.underlying32 hi6 hz6 hs6 hb6 rfl (by omega) (.slice A0 L.length c0) L.length xs (by rfl) OY.out _ (some ⟨W.heap.size + 1, 0, none⟩) 1 1 [.int .i64 (x : Int), .slice (some ⟨W.heap.size, 0, none⟩) 64 64] (by rfl) RY.out (wr_one _ _ _ _) N1.out N2.out N3.out ?_
              intro v9 w9 hown9 hgr9 hat9
              obtain ⟨A9, c9, rfl, g1, g2⟩ := own_form hown9
              have b9 := blk_far hgr9 BY.out OY.out (by decide)
              have cl9 := b9.cell
              have fz9 := b9.frozen
              refine hK _ _ ?_
              clear hK K
              try simp only [Act.put, List.setIfInBounds_toArray, List.set_cons_zero, List.set_cons_succ]
              refine wpAnyIn_ready (rs := [6]) (by kernel_rfl) (by simp) ?_
              refine AllReadyIn.cons rfl (fun K hK => ?_) AllReadyIn.nil
              go_simp
              refine hK _ _ ?_
              clear hK K
              try simp only [Act.put, List.setIfInBounds_toArray, List.set_cons_zero, List.set_cons_succ]
              refine wpAnyIn_done (by kernel_rfl) ?_ _
              gi_wp2
              obtain ⟨K1, K2, K3⟩ := ScI.next (x : Int) HI.out hw34 HLB.out HO.out hown9 hgr9
              exact ⟨K1, K2, by (try dsimp only); rw [wipe_snoc, ← List.append_assoc, ← HL.out]; exact K3, K1.same D _ HKD1.out rfl⟩
            · skip
              go_simp
              refine hK _ _ ?_
              clear hK K
              try simp only [Act.put, List.setIfInBounds_toArray, List.set_cons_zero, List.set_cons_succ]
              refine wpAnyIn_ready (rs := [1]) (by kernel_rfl) (by simp) ?_
              refine AllReadyIn.cons rfl (fun K hK => ?_) AllReadyIn.nil
              go_simp
              refine hK _ _ ?_
              clear hK K
              try simp only [Act.put, List.setIfInBounds_toArray, List.set_cons_zero, List.set_cons_succ]
              refine wpAnyIn_ready (rs := [3]) (by kernel_rfl) (by simp) ?_
              refine AllReadyIn.cons rfl (fun K hK => ?_) AllReadyIn.nil
              go_simp
              refine hK _ _ ?_
              clear hK K
              try simp only [Act.put, List.setIfInBounds_toArray, List.set_cons_zero, List.set_cons_succ]
              refine wpAnyIn_ready (rs := [4]) (by kernel_rfl) (by simp) ?_
              refine AllReadyIn.cons rfl (fun K hK => ?_) AllReadyIn.nil
              go_simp
              refine hK _ _ ?_
              clear hK K
              try simp only [Act.put, List.setIfInBounds_toArray, List.set_cons_zero, List.set_cons_succ]
              refine wpAnyIn_ready (rs := [5]) (by kernel_rfl) (by simp) ?_
              refine AllReadyIn.cons rfl (fun K hK => ?_) AllReadyIn.nil
              refine stepIn_append_any _ (by rfl) (.tmp 69) (.tmp 73) 32 (by rfl) w.heap.size 60 i6 (.agg #[.int .i64 0, .slice none 0 0]) 2 32 Tryd.underlying32 hi6 hz6 hs6 hb6 rfl (by omega) (.slice A0 L.length c0) L.length xs (by rfl) OY.out _ (some ⟨W.heap.size + 1, 0, none⟩) 1 1 [.int .i64 (x : Int), .slice (some ⟨W.heap.size, 0, none⟩) 64 64] (by rfl) RY.out (wr_one _ _ _ _) N1.out N2.out N3.out ?_
              intro v9 w9 hown9 hgr9 hat9
              obtain ⟨A9, c9, rfl, g1, g2⟩ := own_form hown9
              have b9 := blk_far hgr9 BY.out OY.out (by decide)
              have cl9 := b9.cell
              have fz9 := b9.frozen
              refine hK _ _ ?_
              clear hK K
              try simp only [Act.put, List.setIfInBounds_toArray, List.set_cons_zero, List.set_cons_succ]
              refine wpAnyIn_ready (rs := [6]) (by kernel_rfl) (by simp) ?_
              refine AllReadyIn.cons rfl (fun K hK => ?_) AllReadyIn.nil
              go_simp
              refine hK _ _ ?_
              clear hK K
              try simp only [Act.put, List.setIfInBounds_toArray, List.set_cons_zero, List.set_cons_succ]
              refine wpAnyIn_done (by kernel_rfl) ?_ _
              gi_wp2
              obtain ⟨K1, K2, K3⟩ := ScI.next (x : Int) HI.out hw34 HLB.out HO.out hown9 hgr9
              exact ⟨K1, K2, by (try dsimp only); rw [wipe_snoc, ← List.append_assoc, ← HL.out]; exact K3, K1.same D _ HKD1.out rfl⟩
          · skip
            go_simp
            refine hK _ _ ?_
            clear hK K
            try simp only [Act.put, List.setIfInBounds_toArray, List.set_cons_zero, List.set_cons_succ]
            refine wpAnyIn_ready (rs := [0, 2]) (by kernel_rfl) (by simp) ?_
            refine AllReadyIn.cons rfl (fun K hK => ?_) (AllReadyIn.cons rfl (fun K hK => ?_) AllReadyIn.nil)
            · skip
              go_simp
              refine hK _ _ ?_
              clear hK K
              try simp only [Act.put, List.setIfInBounds_toArray, List.set_cons_zero, List.set_cons_succ]
              refine wpAnyIn_ready (rs := [2]) (by kernel_rfl) (by simp) ?_
              refine AllReadyIn.cons rfl (fun K hK => ?_) AllReadyIn.nil
              go_simp
              refine hK _ _ ?_
              clear hK K
              try simp only [Act.put, List.setIfInBounds_toArray, List.set_cons_zero, List.set_cons_succ]
              refine wpAnyIn_ready (rs := [3]) (by kernel_rfl) (by simp) ?_
              refine AllReadyIn.cons rfl (fun K hK => ?_) AllReadyIn.nil
              go_simp
              refine hK _ _ ?_
              clear hK K
              try simp only [Act.put, List.setIfInBounds_toArray, List.set_cons_zero, List.set_cons_succ]
              refine wpAnyIn_ready (rs := [4]) (by kernel_rfl) (by simp) ?_
              refine AllReadyIn.cons rfl (fun K hK => ?_) AllReadyIn.nil
              go_simp
              refine hK _ _ ?_
              clear hK K
              try simp only [Act.put, List.setIfInBounds_toArray, List.set_cons_zero, List.set_cons_succ]
              refine wpAnyIn_ready (rs := [5]) (by kernel_rfl) (by simp) ?_
              refine AllReadyIn.cons rfl (fun K hK => ?_) AllReadyIn.nil
              refine stepIn_append_any _ (by rfl) (.tmp 69) (.tmp 73) 32 (by rfl) w.heap.size 60 i6 (.agg #[.int .i64 0, .slice none 0 0]) 2 32 Tryd.underlying32 hi6 hz6 hs6 hb6 rfl (by omega) (.slice A0 L.length c0) L.length xs (by rfl) OY.out _ (some ⟨W.heap.size + 1, 0, none⟩) 1 1 [.int .i64 (x : Int), .slice (some ⟨W.heap.size, 0, none⟩) 64 64] (by rfl) RY.out (wr_one _ _ _ _) N1.out N2.out N3.out ?_
              intro v9 w9 hown9 hgr9 hat9
              obtain ⟨A9, c9, rfl, g1, g2⟩ := own_form hown9
              have b9 := blk_far hgr9 BY.out OY.out (by decide)
              have cl9 := b9.cell
              have fz9 := b9.frozen
              refine hK _ _ ?_
              clear hK K
              try simp only [Act.put, List.setIfInBounds_toArray, List.set_cons_zero, List.set_cons_succ]
              refine wpAnyIn_ready (rs := [6]) (by kernel_rfl) (by simp) ?_
              refine AllReadyIn.cons rfl (fun K hK => ?_) AllReadyIn.nil
              go_simp
              refine hK _ _ ?_
              clear hK K
              try simp only [Act.put, List.setIfInBounds_toArray, List.set_cons_zero, List.set_cons_succ]
              refine wpAnyIn_done (by kernel_rfl) ?_ _
              gi_wp2
              obtain ⟨K1, K2, K3⟩ := ScI.next (x : Int) HI.out hw34 HLB.out HO.out hown9 hgr9
              exact ⟨K1, K2, by (try dsimp only); rw [wipe_snoc, ← List.append_assoc, ← HL.out]; exact K3, K1.same D _ HKD1.out rfl⟩
            · skip
              go_simp
              refine hK _ _ ?_
              clear hK K
              try simp only [Act.put, List.setIfInBounds_toArray, List.set_cons_zero, List.set_cons_succ]
              refine wpAnyIn_ready (rs := [0, 3]) (by kernel_rfl) (by simp) ?_
              refine AllReadyIn.cons rfl (fun K hK => ?_) (AllReadyIn.cons rfl (fun K hK => ?_) AllReadyIn.nil)
              · skip
                go_simp
                refine hK _ _ ?_
                clear hK K
                try simp only [Act.put, List.setIfInBounds_toArray, List.set_cons_zero, List.set_cons_succ]
                refine wpAnyIn_ready (rs := [3]) (by kernel_rfl) (by simp) ?_
                refine AllReadyIn.cons rfl (fun K hK => ?_) AllReadyIn.nil
                go_simp
                refine hK _ _ ?_
                clear hK K
                try simp only [Act.put, List.setIfInBounds_toArray, List.set_cons_zero, List.set_cons_succ]
                refine wpAnyIn_ready (rs := [4]) (by kernel_rfl) (by simp) ?_
                refine AllReadyIn.cons rfl (fun K hK => ?_) AllReadyIn.nil
                go_simp
                refine hK _ _ ?_
                clear hK K
                try simp only [Act.put, List.setIfInBounds_toArray, List.set_cons_zero, List.set_cons_succ]
                refine wpAnyIn_ready (rs := [5]) (by kernel_rfl) (by simp) ?_
                refine AllReadyIn.cons rfl (fun K hK => ?_) AllReadyIn.nil
                refine stepIn_append_any _ (by rfl) (.tmp 69) (.tmp 73) 32 (by rfl) w.heap.size 60 i6 (.agg #[.int .i64 0, .slice none 0 0]) 2 32 Tryd.underlying32 hi6 hz6 hs6 hb6 rfl (by omega) (.slice A0 L.length c0) L.length xs (by rfl) OY.out _ (some ⟨W.heap.size + 1, 0, none⟩) 1 1 [.int .i64 (x : Int), .slice (some ⟨W.heap.size, 0, none⟩) 64 64] (by rfl) RY.out (wr_one _ _ _ _) N1.out N2.out N3.out ?_
                intro v9 w9 hown9 hgr9 hat9
                obtain ⟨A9, c9, rfl, g1, g2⟩ := own_form hown9
                have b9 := blk_far hgr9 BY.out OY.out (by decide)
                have cl9 := b9.cell
                have fz9 := b9.frozen
                refine hK _ _ ?_
                clear hK K
                try simp only [Act.put, List.setIfInBounds_toArray, List.set_cons_zero, List.set_cons_succ]
                refine wpAnyIn_ready (rs := [6]) (by kernel_rfl) (by simp) ?_
                refine AllReadyIn.cons rfl (fun K hK => ?_) AllReadyIn.nil
                go_simp
                refine hK _ _ ?_
                clear hK K
                try simp only [Act.put, List.setIfInBounds_toArray, List.set_cons_zero, List.set_cons_succ]
                refine wpAnyIn_done (by kernel_rfl) ?_ _
                gi_wp2
                obtain ⟨K1, K2, K3⟩ := ScI.next (x : Int) HI.out hw34 HLB.out HO.out hown9 hgr9
                exact ⟨K1, K2, by (try dsimp only); rw [wipe_snoc, ← List.append_assoc, ← HL.out]; exact K3, K1.same D _ HKD1.out rfl⟩
              · skip
                go_simp
                refine hK _ _ ?_
                clear hK K
                try simp only [Act.put, List.setIfInBounds_toArray, List.set_cons_zero, List.set_cons_succ]
                refine wpAnyIn_ready (rs := [0, 4]) (by kernel_rfl) (by simp) ?_
                refine AllReadyIn.cons rfl (fun K hK => ?_) (AllReadyIn.cons rfl (fun K hK => ?_) AllReadyIn.nil)
                · skip
                  go_simp
                  refine hK _ _ ?_
                  clear hK K
                  try simp only [Act.put, List.setIfInBounds_toArray, List.set_cons_zero, List.set_cons_succ]
                  refine wpAnyIn_ready (rs := [4]) (by kernel_rfl) (by simp) ?_
                  refine AllReadyIn.cons rfl (fun K hK => ?_) AllReadyIn.nil
                  go_simp
                  refine hK _ _ ?_
                  clear hK K
                  try simp only [Act.put, List.setIfInBounds_toArray, List.set_cons_zero, List.set_cons_succ]
                  refine wpAnyIn_ready (rs := [5]) (by kernel_rfl) (by simp) ?_
                  refine AllReadyIn.cons rfl (fun K hK => ?_) AllReadyIn.nil
                  refine stepIn_append_any _ (by rfl) (.tmp 69) (.tmp 73) 32 (by rfl) w.heap.size 60 i6 (.agg #[.int .i64 0, .slice none 0 0]) 2 32 Tryd.underlying32 hi6 hz6 hs6 hb6 rfl (by omega) (.slice A0 L.length c0) L.length xs (by rfl) OY.out _ (some ⟨W.heap.size + 1, 0, none⟩) 1 1 [.int .i64 (x : Int), .slice (some ⟨W.heap.size, 0, none⟩) 64 64] (by rfl) RY.out (wr_one _ _ _ _) N1.out N2.out N3.out ?_
                  intro v9 w9 hown9 hgr9 hat9
                  obtain ⟨A9, c9, rfl, g1, g2⟩ := own_form hown9
                  have b9 := blk_far hgr9 BY.out OY.out (by decide)
                  have cl9 := b9.cell
                  have fz9 := b9.frozen
                  refine hK _ _ ?_
                  clear hK K
                  try simp only [Act.put, List.setIfInBounds_toArray, List.set_cons_zero, List.set_cons_succ]
                  refine wpAnyIn_ready (rs := [6]) (by kernel_rfl) (by simp) ?_
                  refine AllReadyIn.cons rfl (fun K hK => ?_) AllReadyIn.nil
                  go_simp
                  refine hK _ _ ?_
                  clear hK K
                  try simp only [Act.put, List.setIfInBounds_toArray, List.set_cons_zero, List.set_cons_succ]
                  refine wpAnyIn_done (by kernel_rfl) ?_ _
                  gi_wp2
                  obtain ⟨K1, K2, K3⟩ := ScI.next (x : Int) HI.out hw34 HLB.out HO.out hown9 hgr9
                  exact ⟨K1, K2, by (try dsimp only); rw [wipe_snoc, ← List.append_assoc, ← HL.out]; exact K3, K1.same D _ HKD1.out rfl⟩
                · skip
                  go_simp
                  refine hK _ _ ?_
                  clear hK K
                  try simp only [Act.put, List.setIfInBounds_toArray, List.set_cons_zero, List.set_cons_succ]
                  refine wpAnyIn_ready (rs := [0]) (by kernel_rfl) (by simp) ?_
                  refine AllReadyIn.cons rfl (fun K hK => ?_) AllReadyIn.nil
                  go_simp
                  refine hK _ _ ?_
                  clear hK K
                  try simp only [Act.put, List.setIfInBounds_toArray, List.set_cons_zero, List.set_cons_succ]
                  refine wpAnyIn_ready (rs := [5]) (by kernel_rfl) (by simp) ?_
                  refine AllReadyIn.cons rfl (fun K hK => ?_) AllReadyIn.nil
                  refine stepIn_append_any _ (by rfl) (.tmp 69) (.tmp 73) 32 (by rfl) w.heap.size 60 i6 (.agg #[.int .i64 0, .slice none 0 0]) 2 32 Tryd.underlying32 hi6 hz6 hs6 hb6 rfl (by omega) (.slice A0 L.length c0) L.length xs (by rfl) OY.out _ (some ⟨W.heap.size + 1, 0, none⟩) 1 1 [.int .i64 (x : Int), .slice (some ⟨W.heap.size, 0, none⟩) 64 64] (by rfl) RY.out (wr_one _ _ _ _) N1.out N2.out N3.out ?_
                  intro v9 w9 hown9 hgr9 hat9
                  obtain ⟨A9, c9, rfl, g1, g2⟩ := own_form hown9
                  have b9 := blk_far hgr9 BY.out OY.out (by decide)
                  have cl9 := b9.cell
                  have fz9 := b9.frozen
                  refine hK _ _ ?_
                  clear hK K
                  try simp only [Act.put, List.setIfInBounds_toArray, List.set_cons_zero, List.set_cons_succ]
                  refine wpAnyIn_ready (rs := [6]) (by kernel_rfl) (by simp) ?_
                  refine AllReadyIn.cons rfl (fun K hK => ?_) AllReadyIn.nil
                  go_simp
                  refine hK _ _ ?_
                  clear hK K
                  try simp only [Act.put, List.setIfInBounds_toArray, List.set_cons_zero, List.set_cons_succ]
                  refine wpAnyIn_done (by kernel_rfl) ?_ _
                  gi_wp2
                  obtain ⟨K1, K2, K3⟩ := ScI.next (x : Int) HI.out hw34 HLB.out HO.out hown9 hgr9
                  exact ⟨K1, K2, by (try dsimp only); rw [wipe_snoc, ← List.append_assoc, ← HL.out]; exact K3, K1.same D _ HKD1.out rfl⟩
          · skip
            go_simp
            refine hK _ _ ?_
            clear hK K
            try simp only [Act.put, List.setIfInBounds_toArray, List.set_cons_zero, List.set_cons_succ]
            refine wpAnyIn_ready (rs := [0, 1]) (by kernel_rfl) (by simp) ?_
            refine AllReadyIn.cons rfl (fun K hK => ?_) (AllReadyIn.cons rfl (fun K hK => ?_) AllReadyIn.nil)
            · skip
              go_simp
              refine hK _ _ ?_
              clear hK K
              try simp only [Act.put, List.setIfInBounds_toArray, List.set_cons_zero, List.set_cons_succ]
              refine wpAnyIn_ready (rs := [1]) (by kernel_rfl) (by simp) ?_
              refine AllReadyIn.cons rfl (fun K hK => ?_) AllReadyIn.nil
              go_simp
              refine hK _ _ ?_
              clear hK K
              try simp only [Act.put, List.setIfInBounds_toArray, List.set_cons_zero, List.set_cons_succ]
              refine wpAnyIn_ready (rs := [3]) (by kernel_rfl) (by simp) ?_
              refine AllReadyIn.cons rfl (fun K hK => ?_) AllReadyIn.nil
              go_simp
              refine hK _ _ ?_
              clear hK K
              try simp only [Act.put, List.setIfInBounds_toArray, List.set_cons_zero, List.set_cons_succ]
              refine wpAnyIn_ready (rs := [4]) (by kernel_rfl) (by simp) ?_
              refine AllReadyIn.cons rfl (fun K hK => ?_) AllReadyIn.nil
              go_simp
              refine hK _ _ ?_
              clear hK K
              try simp only [Act.put, List.setIfInBounds_toArray, List.set_cons_zero, List.set_cons_succ]
              refine wpAnyIn_ready (rs := [5]) (by kernel_rfl) (by simp) ?_
              refine AllReadyIn.cons rfl (fun K hK => ?_) AllReadyIn.nil
              refine stepIn_append_any _ (by rfl) (.tmp 69) (.tmp 73) 32 (by rfl) w.heap.size 60 i6 (.agg #[.int .i64 0, .slice none 0 0]) 2 32 Tryd.underlying32 hi6 hz6 hs6 hb6 rfl (by omega) (.slice A0 L.length c0) L.length xs (by rfl) OY.out _ (some ⟨W.heap.size + 1, 0, none⟩) 1 1 [.int .i64 (x : Int), .slice (some ⟨W.heap.size, 0, none⟩) 64 64] (by rfl) RY.out (wr_one _ _ _ _) N1.out N2.out N3.out ?_
              intro v9 w9 hown9 hgr9 hat9
              obtain ⟨A9, c9, rfl, g1, g2⟩ := own_form hown9
              have b9 := blk_far hgr9 BY.out OY.out (by decide)
              have cl9 := b9.cell
              have fz9 := b9.frozen
              refine hK _ _ ?_
              clear hK K
              try simp only [Act.put, List.setIfInBounds_toArray, List.set_cons_zero, List.set_cons_succ]
              refine wpAnyIn_ready (rs := [6]) (by kernel_rfl) (by simp) ?_
              refine AllReadyIn.cons rfl (fun K hK => ?_) AllReadyIn.nil
              go_simp
              refine hK _ _ ?_
              clear hK K
              try simp only [Act.put, List.setIfInBounds_toArray, List.set_cons_zero, List.set_cons_succ]
              refine wpAnyIn_done (by kernel_rfl) ?_ _
              gi_wp2
              obtain ⟨K1, K2, K3⟩ := ScI.next (x : Int) HI.out hw34 HLB.out HO.out hown9 hgr9
              exact ⟨K1, K2, by (try dsimp only); rw [wipe_snoc, ← List.append_assoc, ← HL.out]; exact K3, K1.same D _ HKD1.out rfl⟩
            · skip
              go_simp
              refine hK _ _ ?_
              clear hK K
              try simp only [Act.put, List.setIfInBounds_toArray, List.set_cons_zero, List.set_cons_succ]
              refine wpAnyIn_ready (rs := [0, 3]) (by kernel_rfl) (by simp) ?_
              refine AllReadyIn.cons rfl (fun K hK => ?_) (AllReadyIn.cons rfl (fun K hK => ?_) AllReadyIn.nil)
              · skip
                go_simp
                refine hK _ _ ?_
                clear hK K
                try simp only [Act.put, List.setIfInBounds_toArray, List.set_cons_zero, List.set_cons_succ]
                refine wpAnyIn_ready (rs := [3]) (by kernel_rfl) (by simp) ?_
                refine AllReadyIn.cons rfl (fun K hK => ?_) AllReadyIn.nil
                go_simp
                refine hK _ _ ?_
                clear hK K
                try simp only [Act.put, List.setIfInBounds_toArray, List.set_cons_zero, List.set_cons_succ]
                refine wpAnyIn_ready (rs := [4]) (by kernel_rfl) (by simp) ?_
                refine AllReadyIn.cons rfl (fun K hK => ?_) AllReadyIn.nil
                go_simp
                refine hK _ _ ?_
                clear hK K
                try simp only [Act.put, List.setIfInBounds_toArray, List.set_cons_zero, List.set_cons_succ]
                refine wpAnyIn_ready (rs := [5]) (by kernel_rfl) (by simp) ?_
                refine AllReadyIn.cons rfl (fun K hK => ?_) AllReadyIn.nil
                refine stepIn_append_any _ (by rfl) (.tmp 69) (.tmp 73) 32 (by rfl) w.heap.size 60 i6 (.agg #[.int .i64 0, .slice none 0 0]) 2 32 Tryd.underlying32 hi6 hz6 hs6 hb6 rfl (by omega) (.slice A0 L.length c0) L.length xs (by rfl) OY.out _ (some ⟨W.heap.size + 1, 0, none⟩) 1 1 [.int .i64 (x : Int), .slice (some ⟨W.heap.size, 0, none⟩) 64 64] (by rfl) RY.out (wr_one _ _ _ _) N1.out N2.out N3.out ?_
                intro v9 w9 hown9 hgr9 hat9
                obtain ⟨A9, c9, rfl, g1, g2⟩ := own_form hown9
                have b9 := blk_far hgr9 BY.out OY.out (by decide)
                have cl9 := b9.cell
                have fz9 := b9.frozen
                refine hK _ _ ?_
                clear hK K
                try simp only [Act.put, List.setIfInBounds_toArray, List.set_cons_zero, List.set_cons_succ]
                refine wpAnyIn_ready (rs := [6]) (by kernel_rfl) (by simp) ?_
                refine AllReadyIn.cons rfl (fun K hK => ?_) AllReadyIn.nil
                go_simp
                refine hK _ _ ?_
                clear hK K
                try simp only [Act.put, List.setIfInBounds_toArray, List.set_cons_zero, List.set_cons_succ]
                refine wpAnyIn_done (by kernel_rfl) ?_ _
                gi_wp2
                obtain ⟨K1, K2, K3⟩ := ScI.next (x : Int) HI.out hw34 HLB.out HO.out hown9 hgr9
                exact ⟨K1, K2, by (try dsimp only); rw [wipe_snoc, ← List.append_assoc, ← HL.out]; exact K3, K1.same D _ HKD1.out rfl⟩
              · skip
                go_simp
                refine hK _ _ ?_
                clear hK K
                try simp only [Act.put, List.setIfInBounds_toArray, List.set_cons_zero, List.set_cons_succ]
                refine wpAnyIn_ready (rs := [0, 4]) (by kernel_rfl) (by simp) ?_
                refine AllReadyIn.cons rfl (fun K hK => ?_) (AllReadyIn.cons rfl (fun K hK => ?_) AllReadyIn.nil)
                · skip
                  go_simp
                  refine hK _ _ ?_
                  clear hK K
                  try simp only [Act.put, List.setIfInBounds_toArray, List.set_cons_zero, List.set_cons_succ]
                  refine wpAnyIn_ready (rs := [4]) (by kernel_rfl) (by simp) ?_
                  refine AllReadyIn.cons rfl (fun K hK => ?_) AllReadyIn.nil
                  go_simp
                  refine hK _ _ ?_
                  clear hK K
                  try simp only [Act.put, List.setIfInBounds_toArray, List.set_cons_zero, List.set_cons_succ]
                  refine wpAnyIn_ready (rs := [5]) (by kernel_rfl) (by simp) ?_
                  refine AllReadyIn.cons rfl (fun K hK => ?_) AllReadyIn.nil
                  refine stepIn_append_any _ (by rfl) (.tmp 69) (.tmp 73) 32 (by rfl) w.heap.size 60 i6 (.agg #[.int .i64 0, .slice none 0 0]) 2 32 Tryd.underlying32 hi6 hz6 hs6 hb6 rfl (by omega) (.slice A0 L.length c0) L.length xs (by rfl) OY.out _ (some ⟨W.heap.size + 1, 0, none⟩) 1 1 [.int .i64 (x : Int), .slice (some ⟨W.heap.size, 0, none⟩) 64 64] (by rfl) RY.out (wr_one _ _ _ _) N1.out N2.out N3.out ?_
                  intro v9 w9 hown9 hgr9 hat9
                  obtain ⟨A9, c9, rfl, g1, g2⟩ := own_form hown9
                  have b9 := blk_far hgr9 BY.out OY.out (by decide)
                  have cl9 := b9.cell
                  have fz9 := b9.frozen
                  refine hK _ _ ?_
                  clear hK K
                  try simp only [Act.put, List.setIfInBounds_toArray, List.set_cons_zero, List.set_cons_succ]
                  refine wpAnyIn_ready (rs := [6]) (by kernel_rfl) (by simp) ?_
                  refine AllReadyIn.cons rfl (fun K hK => ?_) AllReadyIn.nil
                  go_simp
                  refine hK _ _ ?_
                  clear hK K
                  try simp only [Act.put, List.setIfInBounds_toArray, List.set_cons_zero, List.set_cons_succ]
                  refine wpAnyIn_done (by kernel_rfl) ?_ _
                  gi_wp2
                  obtain ⟨K1, K2, K3⟩ := ScI.next (x : Int) HI.out hw34 HLB.out HO.out hown9 hgr9
                  exact ⟨K1, K2, by (try dsimp only); rw [wipe_snoc, ← List.append_assoc, ← HL.out]; exact K3, K1.same D _ HKD1.out rfl⟩
                · skip
                  go_simp
                  refine hK _ _ ?_
                  clear hK K
                  try simp only [Act.put, List.setIfInBounds_toArray, List.set_cons_zero, List.set_cons_succ]
                  refine wpAnyIn_ready (rs := [0]) (by kernel_rfl) (by simp) ?_
                  refine AllReadyIn.cons rfl (fun K hK => ?_) AllReadyIn.nil
                  go_simp
                  refine hK _ _ ?_
                  clear hK K
                  try simp only [Act.put, List.setIfInBounds_toArray, List.set_cons_zero, List.set_cons_succ]
                  refine wpAnyIn_ready (rs := [5]) (by kernel_rfl) (by simp) ?_
                  refine AllReadyIn.cons rfl (fun K hK => ?_) AllReadyIn.nil
                  refine stepIn_append_any _ (by rfl) (.tmp 69) (.tmp 73) 32 (by rfl) w.heap.size 60 i6 (.agg #[.int .i64 0, .slice none 0 0]) 2 32 Tryd.underlying32 hi6 hz6 hs6 hb6 rfl (by omega) (.slice A0 L.length c0) L.length xs (by rfl) OY.out _ (some ⟨W.heap.size + 1, 0, none⟩) 1 1 [.int .i64 (x : Int), .slice (some ⟨W.heap.size, 0, none⟩) 64 64] (by rfl) RY.out (wr_one _ _ _ _) N1.out N2.out N3.out ?_
                  intro v9 w9 hown9 hgr9 hat9
                  obtain ⟨A9, c9, rfl, g1, g2⟩ := own_form hown9
                  have b9 := blk_far hgr9 BY.out OY.out (by decide)
                  have cl9 := b9.cell
                  have fz9 := b9.frozen
                  refine hK _ _ ?_
                  clear hK K
                  try simp only [Act.put, List.setIfInBounds_toArray, List.set_cons_zero, List.set_cons_succ]
                  refine wpAnyIn_ready (rs := [6]) (by kernel_rfl) (by simp) ?_
                  refine AllReadyIn.cons rfl (fun K hK => ?_) AllReadyIn.nil
                  go_simp
                  refine hK _ _ ?_
                  clear hK K
                  try simp only [Act.put, List.setIfInBounds_toArray, List.set_cons_zero, List.set_cons_succ]
                  refine wpAnyIn_done (by kernel_rfl) ?_ _
                  gi_wp2
                  obtain ⟨K1, K2, K3⟩ := ScI.next (x : Int) HI.out hw34 HLB.out HO.out hown9 hgr9
                  exact ⟨K1, K2, by (try dsimp only); rw [wipe_snoc, ← List.append_assoc, ← HL.out]; exact K3, K1.same D _ HKD1.out rfl⟩
        case done2 =>
          rintro D2 ys W hD2 rfl ⟨hI, hK1⟩ hK2
          obtain ⟨A0, c0, xs, hlb, hO⟩ := hI.lb
          obtain ⟨Lw, hLw⟩ : ∃ L, L = d1 ++ wipe (dts d.secs (a + 1 + u) (h - 1 - u)) := ⟨_, rfl⟩
          rw [← hLw] at hlb hO
          have HLW := Lib.hid hLw
          have k0 := hlb.cell
          have HO := Lib.hid hO
          have HB := Lib.hid hI.bel
          have HK1 := Lib.hid hK1
          have HK2 := Lib.hid hK2
          have hne : D ≠ D2 := by omega
          have hD0 : w.heap.size ≤ D := Nat.le_trans hwW hD
          have hD20 : w.heap.size ≤ D2 := Nat.le_trans hwW7 hD2
          clear hI hlb hO hLw hK1 hK2
          gi_wp2
          have hK1' : (W.putObj D2 (.deferred none)).heap[D]? = some (.deferred (some [])) := (World.putObj_heap_other hne).trans HK1.out
          refine ⟨by simp, .inl ⟨_, _, rfl, run_takeDeferred HK2.out, ⟨by simp, .inl ⟨_, _, rfl, run_takeDeferred hK1', ?_⟩⟩⟩⟩
          refine ⟨_, results_tmp2 rfl _ _ _, ?_⟩
          have O1 := HO.out.turned (grownBy_putObj' W D2 (.deferred none)) (fun r e => by injection e with e; subst e; exact ⟨_, HK2.out, rfl⟩)
          have B1 := HB.out.grown (grownBy_putObj' W D2 (.deferred none)) HB.out.size (fun k e => by injection e with e; omega)
          rw [← HD1.out, ← HLW.out]
          exact ⟨A0, c0, xs, rfl, O1.turned (grownBy_putObj' _ D (.deferred none)) (fun r e => by injection e with e; subst e; exact ⟨_, hK1', rfl⟩), B1.grown (grownBy_putObj' _ D (.deferred none)) B1.size (fun k e => by injection e with e; omega)⟩
end Go.Proofs.YtgeofnemlijbgaaDoor
