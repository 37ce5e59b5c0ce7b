/- VaultGoes: the walk. -/
import Derived.Test.YtgeofnemlijbgaaDoorVP1
namespace Go.Proofs.YtgeofnemlijbgaaDoor
open Go.RowKit
set_option linter.unusedVariables false
set_option linter.unusedSimpArgs false

theorem new_r {n : Int} {x : Dsk} {e : Int} {w : World} (hr : newD n = (x, e)) : Calls Tryd.prog 16 #[.int .i64 n] w (DRet w x fun v => .tuple #[v, .int .i64 e]) := by
  have := new_any n w; rw [hr] at this; exact this
/-- A disk of the call's own in a box that was laid ahead. -/
theorem beh2 {W Y : World} {gb base : Nat} {A1 : Option Addr} {c1 : Nat} {vs : List Value} {D : Dsk} {x0 x1 x2 x3 x4 : Value} (hB : Below W.heap.size W Y) (hb : Blk Y gb 24 #[x0, x1, x2, x3, x4]) (hg : W.heap.size ≤ gb) (hO : OwnS Y base (.slice A1 D.secs.length c1) vs D.secs) (hbase : W.heap.size ≤ base) :
    Below W.heap.size W (set5 Y gb (.slice A1 D.secs.length c1) (.int .i64 D.left) (.int .i64 D.torn) (.bool D.off) (.int .i64 D.done)) ∧ Blk (set5 Y gb (.slice A1 D.secs.length c1) (.int .i64 D.left) (.int .i64 D.torn) (.bool D.off) (.int .i64 D.done)) gb 24 #[.slice A1 D.secs.length c1, .int .i64 D.left, .int .i64 D.torn, .bool D.off, .int .i64 D.done] ∧
      OwnS (set5 Y gb (.slice A1 D.secs.length c1) (.int .i64 D.left) (.int .i64 D.torn) (.bool D.off) (.int .i64 D.done)) W.heap.size (.slice A1 D.secs.length c1) vs D.secs :=
  ⟨(beh_close hB hb hg hO).1, (beh_close hB hb hg hO).2.blk, (hO.grownB (set5_grown Y gb _ _ _ _ _) hb (by decide) (by decide)).less hbase⟩
set_option maxRecDepth 100000 in
set_option maxHeartbeats 8000000 in
theorem goes_walk (b : UInt8) (Al : Option Addr) (nl cl : Nat) (l : List (List UInt8)) (w : World) (hl : Bss w w.heap.size Al nl l) :
    Calls Tryd.prog 4 #[.int .u8 (b.toNat : Int), .slice Al nl cl] w fun e w' => e = .returned (.bool true) ∧ Below w.heap.size w w' := by
  have hnl : nl = l.length := hl.1.symm
  have HL := Lib.hid hl
  have HNL := Lib.hid hnl
  obtain ⟨n, hn⟩ : ∃ n : Nat, n = 4 + b.toNat % 97 := ⟨_, rfl⟩
  have hn4 : 4 ≤ n ∧ n ≤ 100 := by omega
  have hb := UInt8.toNat_lt b
  obtain ⟨z, hz⟩ : ∃ z : Int, z = (b.toNat : Int) := ⟨_, rfl⟩
  have e1 : z.tmod 97 = (n : Int) - 4 := by rw [hz, Int.tmod_eq_emod_of_nonneg (by omega)]; omega
  have e1' : z % 97 = (n : Int) - 4 := by rw [hz]; omega
  have e2 : IntKind.i64.wrap (4 + ((n : Int) - 4)) = (n : Int) := by rw [IntWalk.i64_in _ (by omega)]; omega
  have e2' : IntKind.i64.wrap (n : Int) = (n : Int) := IntWalk.i64_in _ (by omega)
  have e3 : (4 : Int) + ((n : Int) - 4) = (n : Int) := by omega
  have e4 : IntKind.i64.wrap z = z := IntWalk.i64_in _ (by omega)
  have e5 : IntKind.i64.wrap ((n : Int) - 4) = (n : Int) - 4 := IntWalk.i64_in _ (by omega)
  rw [← hz]
  have hz0 : 0 ≤ z := by omega
  obtain ⟨hnd, hgi⟩ := goes_new hn4.1 (by omega)
  obtain ⟨D0, hD0⟩ : ∃ D : Dsk, D = ⟨List.replicate n (zeros 64), -1, 0, false, 0⟩ := ⟨_, rfl⟩
  rw [← hD0] at hnd hgi
  have HND := Lib.hid hnd
  have HGI := Lib.hid hgi
  have HN4 := Lib.hid hn4
  clear hl hnl hn hn4 hz hnd hgi hD0 hb
  by_cases h10 : nl ≤ 10
  · have t10 : decide ((10 : Int) < (nl : Int)) = false := decide_eq_false (by omega)
    have t10' : ¬ (10 : Int) < (nl : Int) := by omega
    go_enter Tryd.func4, Tryd.ntmps4
    go_wp2_with (first
      | (go_at_call 9; refine (awake_any _).mono ?_; rintro e w1 ⟨rfl, hB1⟩; have B1 := Lib.hid hB1; clear hB1)
      | (go_at_call 16; refine (new_r HND.out).mono ?_; rintro e w2 ⟨A2, c2, vs2, rfl, hO2, hB2⟩; have hw2 := (keepB hB2 B1.out).size; have D2 := Lib.hid (DBox.new hO2); have B2 := Lib.hid (bel_al (o := .cells #[.slice A2 D0.secs.length c2, .int .i64 D0.left, .int .i64 D0.torn, .bool D0.off, .int .i64 D0.done] 24) (keepB hB2 B1.out)); clear hO2 hB2; dsimp only))
    obtain ⟨gd, hgd⟩ : ∃ g, g = w2.heap.size := ⟨_, rfl⟩
    rw [← hgd] at D2 hw2 ⊢
    generalize (w2.alloc (.cells #[.slice A2 D0.secs.length c2, .int .i64 D0.left, .int .i64 D0.torn, .bool D0.off, .int .i64 D0.done] 24)) = W0 at D2 B2 ⊢
    clear hgd
    go_loopw [9, 10, 11] (fun s9 s10 s11 wr => ∃ (j : Nat) (D : Dsk) (A : Option Addr) (c : Nat) (wt : Int) (lt : List UInt8), j ≤ nl ∧ s11 = .int .i64 (j : Int) ∧ s9 = .int .i64 wt ∧ s10 = .string ⟨lt.toArray⟩ ∧ GoesI n j D wt lt ∧ DBox wr gd A c D ∧ Below w.heap.size w wr) (fun _ _ s11 _ => nl - (intOf s11).toNat)
    case atStart => exact ⟨0, D0, A2, c2, -1, [], Nat.zero_le _, rfl, rfl, rfl, HGI.out, D2.out, B2.out⟩
    case round =>
      obtain ⟨j, D, A, c, wt, lt, hj, rfl, rfl, rfl, hG, hD, hB⟩ := hrel
      have HG := Lib.hid hG
      have HD := Lib.hid hD
      have HB := Lib.hid hB
      obtain ⟨q0, q1, q2, q3, q4⟩ := hD.cells
      obtain ⟨S0, hS0⟩ : ∃ S : ByteArray, S = ⟨lt.toArray⟩ := ⟨_, rfl⟩
      rw [← hS0]
      have HS0 := Lib.hid hS0
      have hwt := hG.hi
      have hwl := hG.lo
      clear hG hD hB hS0 HGI D2 B2 HND
      by_cases hlt : j < nl
      · obtain ⟨ad, As, cs, s, hAe, hb0, hl0, hc, hlc, hcm, hR⟩ := (HL.out.below HB.out).at_ (k := j) hlt
        subst hAe
        have HR := Lib.hid hR
        have HLC := Lib.hid hlc
        have hk0 : (0 : Int) ≤ (j : Int) := by omega
        have hk1 : (j : Int) < (nl : Int) := by omega
        clear hR hl0 hb0 hcm hlc
        by_cases h500 : s.length ≤ 500
        · have u1 : decide ((500 : Int) < (s.length : Int)) = false := decide_eq_false (by omega)
          have u2 : ¬ (500 : Int) < (s.length : Int) := by omega
          obtain ⟨x, ee, hsv, hx, hxr⟩ : ∃ x ee, saveD D s = (x, ee) ∧ ((ee = 0 ∧ ¬ roomN n < s.length ∧ GoesI n (j + 1) x (wt + 1) s) ∨ (ee = 180 ∧ roomN n < s.length ∧ GoesI n (j + 1) x wt lt)) ∧ True := by
            by_cases hr : roomN n < s.length
            · obtain ⟨g1, g2⟩ := HG.out.skip (t := s) (by omega) hr
              exact ⟨_, _, g1, .inr ⟨rfl, hr, g2⟩, trivial⟩
            · obtain ⟨g1, g2⟩ := HG.out.save (t := s) (by omega) hr
              exact ⟨(saveD D s).1, 0, Prod.ext rfl g1, .inl ⟨rfl, hr, g2⟩, trivial⟩
          have HX := Lib.hid hx
          have SV : Hid (∀ Y : World, Below wr.heap.size wr Y → Calls Tryd.prog 12 #[dvD A c D, .slice As s.length cs] Y (DRet Y x fun v => .tuple #[v, .int .i64 ee])) := Lib.hid (fun Y h => save_r hsv (HD.out.after h) (sm_check HG.out.ck) (by rw [HG.out.on.2]; omega) ((HR.out.below (h.mono HB.out.size)).more (Nat.le_trans HB.out.size h.size)) HLC.out (by omega))
          have hadl : (ad.add j).block < wr.heap.size := block_lt_of_cell hc
          have HC := Lib.hid hc
          have HS : Hid (∀ w' : World, Below wr.heap.size wr w' → (fun w' => w'.cell? ⟨gd, 0, none⟩ = some (.slice A D.secs.length c) ∧ w'.cell? ⟨gd, 1, none⟩ = some (.int .i64 D.left) ∧ w'.cell? ⟨gd, 2, none⟩ = some (.int .i64 D.torn) ∧ w'.cell? ⟨gd, 3, none⟩ = some (.bool D.off) ∧ w'.cell? ⟨gd, 4, none⟩ = some (.int .i64 D.done) ∧ w'.cell? (ad.add j) = some (.slice As s.length cs)) w') := Lib.hid (fun w' h => by have hh := (HD.out.after h).cells; exact ⟨hh.1, hh.2.1, hh.2.2.1, hh.2.2.2.1, hh.2.2.2.2, (h.cell hadl).trans HC.out⟩)
          clear hsv hx hxr
          go_upto_region 13 with (fail)
          have hY0 : Below wr.heap.size wr wr.drew := bel_dr (Below.refl _ _)
          go_cut [12, 13] (fun s12 s13 wc => s13 = .int .i64 ee ∧ ∃ ga A2 c2 vs2, s12 = .pointer (some ⟨ga, 0, none⟩) ∧ Blk wc ga 24 #[.slice A2 x.secs.length c2, .int .i64 x.left, .int .i64 x.torn, .bool x.off, .int .i64 x.done] ∧ OwnS wc wr.heap.size (.slice A2 x.secs.length c2) vs2 x.secs ∧ Below wr.heap.size wr wc)
          case first =>
            clear q0 q1 q2 q3 q4 hc
            refine wp_calm ?_
            refine wp_region_held_drew (S := fun w' => w'.cell? ⟨gd, 0, none⟩ = some (.slice A D.secs.length c) ∧ w'.cell? ⟨gd, 1, none⟩ = some (.int .i64 D.left) ∧ w'.cell? ⟨gd, 2, none⟩ = some (.int .i64 D.torn) ∧ w'.cell? ⟨gd, 3, none⟩ = some (.bool D.off) ∧ w'.cell? ⟨gd, 4, none⟩ = some (.int .i64 D.done) ∧ w'.cell? (ad.add j) = some (.slice As s.length cs)) (by kernel_rfl) (HS.out _ hY0) (fun hHeld => ?_)
            refine hw_t (i := 0) (d := some 45) (v := ?_) rfl rfl (by kernel_rfl) (by kernel_rfl) (by kernel_rfl) (fun _ _ _ h => h) (by rfl) ?_ (by assumption) ?_
            rotate_left
            · intro w' hSw
              (try dsimp only at hSw)
              go_split_ands
              go_simp
              try with_reducible rfl
            try simp only [Act.put, List.setIfInBounds_toArray, List.set_cons_zero, List.set_cons_succ]
            refine hw_t (i := 1) (d := some 46) (v := ?_) rfl rfl (by kernel_rfl) (by kernel_rfl) (by kernel_rfl) (fun _ _ _ h => h) (by rfl) ?_ (by assumption) ?_
            rotate_left
            · intro w' hSw
              (try dsimp only at hSw)
              go_split_ands
              go_simp
              try with_reducible rfl
            try simp only [Act.put, List.setIfInBounds_toArray, List.set_cons_zero, List.set_cons_succ]
            refine hw_t (i := 2) (d := some 47) (v := ?_) rfl rfl (by kernel_rfl) (by kernel_rfl) (by kernel_rfl) (fun _ _ _ h => h) (by rfl) ?_ (by assumption) ?_
            rotate_left
            · intro w' hSw
              (try dsimp only at hSw)
              go_split_ands
              go_simp
              try with_reducible rfl
            try simp only [Act.put, List.setIfInBounds_toArray, List.set_cons_zero, List.set_cons_succ]
            refine hw_t (i := 3) (d := some 48) (v := ?_) rfl rfl (by kernel_rfl) (by kernel_rfl) (by kernel_rfl) (fun _ _ _ h => h) (by rfl) ?_ (by assumption) ?_
            rotate_left
            · intro w' hSw
              (try dsimp only at hSw)
              go_split_ands
              go_simp
              try with_reducible rfl
            try simp only [Act.put, List.setIfInBounds_toArray, List.set_cons_zero, List.set_cons_succ]
            refine hw_t (i := 4) (d := some 49) (v := ?_) rfl rfl (by kernel_rfl) (by kernel_rfl) (by kernel_rfl) (fun _ _ _ h => h) (by rfl) ?_ (by assumption) ?_
            rotate_left
            · intro w' hSw
              (try dsimp only at hSw)
              go_split_ands
              go_simp
              try with_reducible rfl
            try simp only [Act.put, List.setIfInBounds_toArray, List.set_cons_zero, List.set_cons_succ]
            generalize wr.drew = Y0 at hHeld hY0 ⊢
            refine wpAnyH_ready (rs := [5, 9]) (by kernel_rfl) (by simp) ?_
            refine AllReadyH.cons rfl (fun K hK => ?_) (AllReadyH.cons rfl (fun K hK => ?_) AllReadyH.nil)
            · skip
              go_simp
              go_wp2_with (go_at_call 12; refine (SV.out _ hY0).mono ?_; rintro e Y1 ⟨A2, c2, vs2, rfl, hO2, hB2⟩; dsimp only)
              have hY1 := keepB hB2 hY0
              refine hK.out _ _ (HS.out _ hY1) (fun hHeld => ?_)
              clear hK K
              try simp only [Act.put, List.setIfInBounds_toArray, List.set_cons_zero, List.set_cons_succ]
              refine hw_t (i := 6) (d := some 44) (v := ?_) rfl rfl (by kernel_rfl) (by kernel_rfl) (by kernel_rfl) (fun _ _ _ h => h) (by rfl) ?_ (by assumption) ?_
              rotate_left
              · intro w' hSw
                (try dsimp only at hSw)
                go_split_ands
                go_simp
                try with_reducible rfl
              try simp only [Act.put, List.setIfInBounds_toArray, List.set_cons_zero, List.set_cons_succ]
              refine hw_t (i := 7) (d := some 51) (v := ?_) rfl rfl (by kernel_rfl) (by kernel_rfl) (by kernel_rfl) (fun _ _ _ h => h) (by rfl) ?_ (by assumption) ?_
              rotate_left
              · intro w' hSw
                (try dsimp only at hSw)
                go_split_ands
                go_simp
                try with_reducible rfl
              try simp only [Act.put, List.setIfInBounds_toArray, List.set_cons_zero, List.set_cons_succ]
              refine hw_t (i := 8) (d := some 52) (v := ?_) rfl rfl (by kernel_rfl) (by kernel_rfl) (by kernel_rfl) (fun _ _ _ h => h) (by rfl) ?_ (by assumption) ?_
              rotate_left
              · intro w' hSw
                (try dsimp only at hSw)
                go_split_ands
                go_simp
                try with_reducible rfl
              try simp only [Act.put, List.setIfInBounds_toArray, List.set_cons_zero, List.set_cons_succ]
              refine wpAnyH_ready (rs := [9]) (by kernel_rfl) (by simp) ?_
              refine AllReadyH.cons rfl (fun K hK => ?_) AllReadyH.nil
              go_simp
              have hY2 := bel_al (o := .cells #[.slice none 0 0, .int .i64 0, .int .i64 0, .bool false, .int .i64 0] 24) hY1
              refine hK.out _ _ (HS.out _ hY2) (fun hHeld => ?_)
              clear hK K
              try simp only [Act.put, List.setIfInBounds_toArray, List.set_cons_zero, List.set_cons_succ]
              have bb := Blk.new Y1 24 #[.slice none 0 0, .int .i64 0, .int .i64 0, .bool false, .int .i64 0]
              have hbg := hY1.size
              have hYY := below_one Y1 (.cells #[.slice none 0 0, .int .i64 0, .int .i64 0, .bool false, .int .i64 0] 24)
              obtain ⟨ga, hga⟩ : ∃ g, g = Y1.heap.size := ⟨_, rfl⟩
              rw [← hga] at bb hbg ⊢
              generalize (Y1.alloc (.cells #[.slice none 0 0, .int .i64 0, .int .i64 0, .bool false, .int .i64 0] 24)) = Y2 at hHeld hY2 bb hYY ⊢
              clear hga
              have fz := (bb).frozen
              have cl := (bb).cell
              obtain ⟨E1, E2, E3⟩ := beh2 hY2 (bb) hbg (hO2.below hYY) (hY0.size)
              refine wpAnyH_ready (rs := [10]) (by kernel_rfl) (by simp) ?_
              refine AllReadyH.cons rfl (fun K hK => ?_) AllReadyH.nil
              go_simp
              refine hK.out _ _ (HS.out _ E1) (fun hHeld => ?_)
              clear hK K
              try simp only [Act.put, List.setIfInBounds_toArray, List.set_cons_zero, List.set_cons_succ]
              refine wpAnyH_ready (rs := [11]) (by kernel_rfl) (by simp) ?_
              refine AllReadyH.cons rfl (fun K hK => ?_) AllReadyH.nil
              go_simp
              refine hK.out _ _ (HS.out _ E1) (fun hHeld => ?_)
              clear hK K
              try simp only [Act.put, List.setIfInBounds_toArray, List.set_cons_zero, List.set_cons_succ]
              refine wpAnyH_done (by kernel_rfl) ?_ _
              go_wp2
              go_meet
              exact ⟨rfl, ga, A2, c2, vs2, rfl, E2, E3, E1⟩
            · skip
              go_simp
              have hY1 := bel_al (o := .cells #[.slice none 0 0, .int .i64 0, .int .i64 0, .bool false, .int .i64 0] 24) hY0
              refine hK.out _ _ (HS.out _ hY1) (fun hHeld => ?_)
              clear hK K
              try simp only [Act.put, List.setIfInBounds_toArray, List.set_cons_zero, List.set_cons_succ]
              have bb := Blk.new Y0 24 #[.slice none 0 0, .int .i64 0, .int .i64 0, .bool false, .int .i64 0]
              have hbg := hY0.size
              have hYY := below_one Y0 (.cells #[.slice none 0 0, .int .i64 0, .int .i64 0, .bool false, .int .i64 0] 24)
              obtain ⟨ga, hga⟩ : ∃ g, g = Y0.heap.size := ⟨_, rfl⟩
              rw [← hga] at bb hbg ⊢
              generalize (Y0.alloc (.cells #[.slice none 0 0, .int .i64 0, .int .i64 0, .bool false, .int .i64 0] 24)) = Y1 at hHeld hY1 bb hYY ⊢
              clear hga
              refine wpAnyH_ready (rs := [5]) (by kernel_rfl) (by simp) ?_
              refine AllReadyH.cons rfl (fun K hK => ?_) AllReadyH.nil
              go_simp
              go_wp2_with (go_at_call 12; refine (SV.out _ hY1).mono ?_; rintro e Y2 ⟨A2, c2, vs2, rfl, hO2, hB2⟩; dsimp only)
              have hY2 := keepB hB2 hY1
              refine hK.out _ _ (HS.out _ hY2) (fun hHeld => ?_)
              clear hK K
              try simp only [Act.put, List.setIfInBounds_toArray, List.set_cons_zero, List.set_cons_succ]
              refine hw_t (i := 6) (d := some 44) (v := ?_) rfl rfl (by kernel_rfl) (by kernel_rfl) (by kernel_rfl) (fun _ _ _ h => h) (by rfl) ?_ (by assumption) ?_
              rotate_left
              · intro w' hSw
                (try dsimp only at hSw)
                go_split_ands
                go_simp
                try with_reducible rfl
              try simp only [Act.put, List.setIfInBounds_toArray, List.set_cons_zero, List.set_cons_succ]
              refine hw_t (i := 7) (d := some 51) (v := ?_) rfl rfl (by kernel_rfl) (by kernel_rfl) (by kernel_rfl) (fun _ _ _ h => h) (by rfl) ?_ (by assumption) ?_
              rotate_left
              · intro w' hSw
                (try dsimp only at hSw)
                go_split_ands
                go_simp
                try with_reducible rfl
              try simp only [Act.put, List.setIfInBounds_toArray, List.set_cons_zero, List.set_cons_succ]
              refine hw_t (i := 8) (d := some 52) (v := ?_) rfl rfl (by kernel_rfl) (by kernel_rfl) (by kernel_rfl) (fun _ _ _ h => h) (by rfl) ?_ (by assumption) ?_
              rotate_left
              · intro w' hSw
                (try dsimp only at hSw)
                go_split_ands
                go_simp
                try with_reducible rfl
              try simp only [Act.put, List.setIfInBounds_toArray, List.set_cons_zero, List.set_cons_succ]
              have fz := (bb.below hB2 bb.lt).frozen
              have cl := (bb.below hB2 bb.lt).cell
              obtain ⟨E1, E2, E3⟩ := beh2 hY2 (bb.below hB2 bb.lt) hbg (hO2) (hY1.size)
              refine wpAnyH_ready (rs := [10]) (by kernel_rfl) (by simp) ?_
              refine AllReadyH.cons rfl (fun K hK => ?_) AllReadyH.nil
              go_simp
              refine hK.out _ _ (HS.out _ E1) (fun hHeld => ?_)
              clear hK K
              try simp only [Act.put, List.setIfInBounds_toArray, List.set_cons_zero, List.set_cons_succ]
              refine wpAnyH_ready (rs := [11]) (by kernel_rfl) (by simp) ?_
              refine AllReadyH.cons rfl (fun K hK => ?_) AllReadyH.nil
              go_simp
              refine hK.out _ _ (HS.out _ E1) (fun hHeld => ?_)
              clear hK K
              try simp only [Act.put, List.setIfInBounds_toArray, List.set_cons_zero, List.set_cons_succ]
              refine wpAnyH_done (by kernel_rfl) ?_ _
              go_wp2
              go_meet
              exact ⟨rfl, ga, A2, c2, vs2, rfl, E2, E3, E1⟩
          case rest =>
            obtain ⟨rfl, ga, A2, c2, vs2, rfl, hb5, hO5, hB5⟩ := hcut
            obtain ⟨W5, hW5⟩ : ∃ W5, W5 = wc := ⟨_, rfl⟩
            rw [← hW5] at hb5 hO5 hB5 ⊢
            clear hW5 q0 q1 q2 q3 q4 hc hY0
            have BB5 := Lib.hid hb5
            have O5 := Lib.hid hO5
            have B5 := Lib.hid hB5
            have hc5 : W5.cell? (ad.add j) = some (.slice As s.length cs) := (hB5.cell hadl).trans HC.out
            have HC5 := Lib.hid hc5
            have hadl5 : (ad.add j).block < W5.heap.size := Nat.lt_of_lt_of_le hadl hB5.size
            have HS5 : Hid (∀ w' : World, Below W5.heap.size W5 w' → w'.cell? (ad.add j) = some (.slice As s.length cs)) := Lib.hid (fun w' h => (h.cell hadl5).trans HC5.out)
            have HS := HS5
            obtain ⟨r, hr⟩ : ∃ r, r = roomN n := ⟨_, rfl⟩
            have HRR := Lib.hid hr
            rw [← hr] at HX
            clear hb5 hO5 hB5 hc5 hr
            rcases HX.out with ⟨rfl, hrr, hGx⟩ | ⟨rfl, hrr, hGx⟩
            · have HGX := Lib.hid hGx
              have v1 : decide ((s.length : Int) ≤ r) = true := decide_eq_true (by omega)
              have v2 : (s.length : Int) ≤ r := by omega
              clear hGx hrr HX
              go_upto_region 14 with (fail)
              refine wp_calm ?_
              have hY0 : Below W5.heap.size W5 W5.drew := bel_dr (Below.refl _ _)
              refine wp_region_held_drew (S := fun w' => w'.cell? (ad.add j) = some (.slice As s.length cs)) (by kernel_rfl) (HS.out _ hY0) (fun hHeld => ?_)
              refine hw_t (i := 0) (d := some 53) (v := ?_) rfl rfl (by kernel_rfl) (by kernel_rfl) (by kernel_rfl) (fun _ _ _ h => h) (by rfl) ?_ (by assumption) ?_
              rotate_left
              · intro w' hSw
                (try dsimp only at hSw)
                go_split_ands
                go_simp
                try with_reducible rfl
              try simp only [Act.put, List.setIfInBounds_toArray, List.set_cons_zero, List.set_cons_succ]
              refine hw_t (i := 1) (d := some 54) (v := ?_) rfl rfl (by kernel_rfl) (by kernel_rfl) (by kernel_rfl) (fun _ _ _ h => h) (by rfl) ?_ (by assumption) ?_
              rotate_left
              · intro w' hSw
                (try dsimp only at hSw)
                go_split_ands
                go_simp
                try with_reducible rfl
              try simp only [Act.put, List.setIfInBounds_toArray, List.set_cons_zero, List.set_cons_succ]
              refine hw_t (i := 2) (d := some 55) (v := ?_) rfl rfl (by kernel_rfl) (by kernel_rfl) (by kernel_rfl) (fun _ _ _ h => h) (by rfl) ?_ (by assumption) ?_
              rotate_left
              · intro w' hSw
                (try dsimp only at hSw)
                go_split_ands
                go_simp
                try with_reducible rfl
              try simp only [Act.put, List.setIfInBounds_toArray, List.set_cons_zero, List.set_cons_succ]
              refine hw_t (i := 3) (d := some 56) (v := ?_) rfl rfl (by kernel_rfl) (by kernel_rfl) (by kernel_rfl) (fun _ _ _ h => h) (by rfl) ?_ (by assumption) ?_
              rotate_left
              · intro w' hSw
                (try dsimp only at hSw)
                go_split_ands
                go_simp
                try with_reducible rfl
              try simp only [Act.put, List.setIfInBounds_toArray, List.set_cons_zero, List.set_cons_succ]
              refine hw_t (i := 4) (d := some 57) (v := ?_) rfl rfl (by kernel_rfl) (by kernel_rfl) (by kernel_rfl) (fun _ _ _ h => h) (by rfl) ?_ (by assumption) ?_
              rotate_left
              · intro w' hSw
                (try dsimp only at hSw)
                go_split_ands
                go_simp
                try with_reducible rfl
              try simp only [Act.put, List.setIfInBounds_toArray, List.set_cons_zero, List.set_cons_succ]
              refine hw_t (i := 5) (d := some 58) (v := ?_) rfl rfl (by kernel_rfl) (by kernel_rfl) (by kernel_rfl) (fun _ _ _ h => h) (by rfl) ?_ (by assumption) ?_
              rotate_left
              · intro w' hSw
                (try dsimp only at hSw)
                go_split_ands
                go_simp
                try with_reducible rfl
              try simp only [Act.put, List.setIfInBounds_toArray, List.set_cons_zero, List.set_cons_succ]
              refine hw_t (i := 6) (d := some 59) (v := ?_) rfl rfl (by kernel_rfl) (by kernel_rfl) (by kernel_rfl) (fun _ _ _ h => h) (by rfl) ?_ (by assumption) ?_
              rotate_left
              · intro w' hSw
                (try dsimp only at hSw)
                go_split_ands
                go_simp
                try with_reducible rfl
              try simp only [Act.put, List.setIfInBounds_toArray, List.set_cons_zero, List.set_cons_succ]
              refine hw_t (i := 7) (d := some 60) (v := ?_) rfl rfl (by kernel_rfl) (by kernel_rfl) (by kernel_rfl) (fun _ _ _ h => h) (by rfl) ?_ (by assumption) ?_
              rotate_left
              · intro w' hSw
                (try dsimp only at hSw)
                go_split_ands
                go_simp
                try with_reducible rfl
              try simp only [Act.put, List.setIfInBounds_toArray, List.set_cons_zero, List.set_cons_succ]
              generalize W5.drew = Y0 at hHeld hY0 ⊢
              refine wpAnyH_ready (rs := [8]) (by kernel_rfl) (by simp) ?_
              refine AllReadyH.cons rfl (fun K hK => ?_) AllReadyH.nil
              go_simp
              go_wp2_with (go_at_call 17; refine (room_any _ _).mono ?_; rw [← HRR.out]; rintro e Y1 ⟨rfl, hB6⟩)
              have hY1 := keepB hB6 hY0
              refine hK.out _ _ (HS.out _ hY1) (fun hHeld => ?_)
              clear hK K
              try simp only [Act.put, List.setIfInBounds_toArray, List.set_cons_zero, List.set_cons_succ]
              refine hw_t (i := 9) (d := some 62) (v := ?_) rfl rfl (by kernel_rfl) (by kernel_rfl) (by kernel_rfl) (fun _ _ _ h => h) (by rfl) ?_ (by assumption) ?_
              rotate_left
              · intro w' hSw
                (try dsimp only at hSw)
                go_split_ands
                go_simp
                try with_reducible rfl
              try simp only [Act.put, List.setIfInBounds_toArray, List.set_cons_zero, List.set_cons_succ]
              refine hw_t (i := 10) (d := some 63) (v := ?_) rfl rfl (by kernel_rfl) (by kernel_rfl) (by kernel_rfl) (fun _ _ _ h => h) (by rfl) ?_ (by assumption) ?_
              rotate_left
              · intro w' hSw
                (try dsimp only at hSw)
                go_split_ands
                go_simp
                try with_reducible rfl
              try simp only [Act.put, List.setIfInBounds_toArray, List.set_cons_zero, List.set_cons_succ]
              refine wpAnyH_done (by kernel_rfl) ?_ _
              have b6 := BB5.out.below hY1 BB5.out.lt
              have O6 := Lib.hid (O5.out.below hY1)
              have B6 := Lib.hid (keepB hY1 B5.out)
              have DD6 := Lib.hid ((HD.out.after B5.out).after hY1)
              have y0 := b6.cell
              have z1 := DD6.out.blk.cell
              have z2 := DD6.out.blk.frozen
              have kc : (convert 25 9 (.slice As s.length cs)).run Tryd.prog Y1 = .ok (.string ⟨s.toArray⟩) Y1 := conv_rd (HR.out.below (B6.out.mono HB.out.size)) cs
              obtain ⟨S1, hS1⟩ : ∃ S : ByteArray, S = ⟨s.toArray⟩ := ⟨_, rfl⟩
              rw [← hS1] at kc
              have HS1 := Lib.hid hS1
              clear hS1
              have hww : IntKind.i64.wrap (wt + 1) = wt + 1 := IntWalk.i64_in _ (by omega)
              go_wp2
              obtain ⟨E1, E2⟩ := beh_close (keepB B6.out HB.out) DD6.out.blk hw2 O6.out
              go_roundw
              case rel => exact ⟨j + 1, x, A2, c2, wt + 1, s, by omega, by go_num, rfl, by rw [HS1.out], HGX.out, E2, E1⟩
              case measure => simp [intOf]; omega
            · have HGX := Lib.hid hGx
              have v1 : decide ((s.length : Int) ≤ r) = false := decide_eq_false (by omega)
              have v2 : ¬ (s.length : Int) ≤ r := by omega
              clear hGx hrr HX
              go_upto_region 14 with (fail)
              refine wp_calm ?_
              have hY0 : Below W5.heap.size W5 W5.drew := bel_dr (Below.refl _ _)
              refine wp_region_held_drew (S := fun w' => w'.cell? (ad.add j) = some (.slice As s.length cs)) (by kernel_rfl) (HS.out _ hY0) (fun hHeld => ?_)
              refine hw_t (i := 0) (d := some 53) (v := ?_) rfl rfl (by kernel_rfl) (by kernel_rfl) (by kernel_rfl) (fun _ _ _ h => h) (by rfl) ?_ (by assumption) ?_
              rotate_left
              · intro w' hSw
                (try dsimp only at hSw)
                go_split_ands
                go_simp
                try with_reducible rfl
              try simp only [Act.put, List.setIfInBounds_toArray, List.set_cons_zero, List.set_cons_succ]
              refine hw_t (i := 1) (d := some 54) (v := ?_) rfl rfl (by kernel_rfl) (by kernel_rfl) (by kernel_rfl) (fun _ _ _ h => h) (by rfl) ?_ (by assumption) ?_
              rotate_left
              · intro w' hSw
                (try dsimp only at hSw)
                go_split_ands
                go_simp
                try with_reducible rfl
              try simp only [Act.put, List.setIfInBounds_toArray, List.set_cons_zero, List.set_cons_succ]
              refine hw_t (i := 2) (d := some 55) (v := ?_) rfl rfl (by kernel_rfl) (by kernel_rfl) (by kernel_rfl) (fun _ _ _ h => h) (by rfl) ?_ (by assumption) ?_
              rotate_left
              · intro w' hSw
                (try dsimp only at hSw)
                go_split_ands
                go_simp
                try with_reducible rfl
              try simp only [Act.put, List.setIfInBounds_toArray, List.set_cons_zero, List.set_cons_succ]
              refine hw_t (i := 3) (d := some 56) (v := ?_) rfl rfl (by kernel_rfl) (by kernel_rfl) (by kernel_rfl) (fun _ _ _ h => h) (by rfl) ?_ (by assumption) ?_
              rotate_left
              · intro w' hSw
                (try dsimp only at hSw)
                go_split_ands
                go_simp
                try with_reducible rfl
              try simp only [Act.put, List.setIfInBounds_toArray, List.set_cons_zero, List.set_cons_succ]
              refine hw_t (i := 4) (d := some 57) (v := ?_) rfl rfl (by kernel_rfl) (by kernel_rfl) (by kernel_rfl) (fun _ _ _ h => h) (by rfl) ?_ (by assumption) ?_
              rotate_left
              · intro w' hSw
                (try dsimp only at hSw)
                go_split_ands
                go_simp
                try with_reducible rfl
              try simp only [Act.put, List.setIfInBounds_toArray, List.set_cons_zero, List.set_cons_succ]
              refine hw_t (i := 5) (d := some 58) (v := ?_) rfl rfl (by kernel_rfl) (by kernel_rfl) (by kernel_rfl) (fun _ _ _ h => h) (by rfl) ?_ (by assumption) ?_
              rotate_left
              · intro w' hSw
                (try dsimp only at hSw)
                go_split_ands
                go_simp
                try with_reducible rfl
              try simp only [Act.put, List.setIfInBounds_toArray, List.set_cons_zero, List.set_cons_succ]
              refine hw_t (i := 6) (d := some 59) (v := ?_) rfl rfl (by kernel_rfl) (by kernel_rfl) (by kernel_rfl) (fun _ _ _ h => h) (by rfl) ?_ (by assumption) ?_
              rotate_left
              · intro w' hSw
                (try dsimp only at hSw)
                go_split_ands
                go_simp
                try with_reducible rfl
              try simp only [Act.put, List.setIfInBounds_toArray, List.set_cons_zero, List.set_cons_succ]
              refine hw_t (i := 7) (d := some 60) (v := ?_) rfl rfl (by kernel_rfl) (by kernel_rfl) (by kernel_rfl) (fun _ _ _ h => h) (by rfl) ?_ (by assumption) ?_
              rotate_left
              · intro w' hSw
                (try dsimp only at hSw)
                go_split_ands
                go_simp
                try with_reducible rfl
              try simp only [Act.put, List.setIfInBounds_toArray, List.set_cons_zero, List.set_cons_succ]
              generalize W5.drew = Y0 at hHeld hY0 ⊢
              refine wpAnyH_ready (rs := [8]) (by kernel_rfl) (by simp) ?_
              refine AllReadyH.cons rfl (fun K hK => ?_) AllReadyH.nil
              go_simp
              go_wp2_with (go_at_call 17; refine (room_any _ _).mono ?_; rw [← HRR.out]; rintro e Y1 ⟨rfl, hB6⟩)
              have hY1 := keepB hB6 hY0
              refine hK.out _ _ (HS.out _ hY1) (fun hHeld => ?_)
              clear hK K
              try simp only [Act.put, List.setIfInBounds_toArray, List.set_cons_zero, List.set_cons_succ]
              refine hw_t (i := 9) (d := some 62) (v := ?_) rfl rfl (by kernel_rfl) (by kernel_rfl) (by kernel_rfl) (fun _ _ _ h => h) (by rfl) ?_ (by assumption) ?_
              rotate_left
              · intro w' hSw
                (try dsimp only at hSw)
                go_split_ands
                go_simp
                try with_reducible rfl
              try simp only [Act.put, List.setIfInBounds_toArray, List.set_cons_zero, List.set_cons_succ]
              refine hw_t (i := 10) (d := some 63) (v := ?_) rfl rfl (by kernel_rfl) (by kernel_rfl) (by kernel_rfl) (fun _ _ _ h => h) (by rfl) ?_ (by assumption) ?_
              rotate_left
              · intro w' hSw
                (try dsimp only at hSw)
                go_split_ands
                go_simp
                try with_reducible rfl
              try simp only [Act.put, List.setIfInBounds_toArray, List.set_cons_zero, List.set_cons_succ]
              refine wpAnyH_done (by kernel_rfl) ?_ _
              have b6 := BB5.out.below hY1 BB5.out.lt
              have O6 := Lib.hid (O5.out.below hY1)
              have B6 := Lib.hid (keepB hY1 B5.out)
              have DD6 := Lib.hid ((HD.out.after B5.out).after hY1)
              have y0 := b6.cell
              have z1 := DD6.out.blk.cell
              have z2 := DD6.out.blk.frozen
              go_wp2
              obtain ⟨E1, E2⟩ := beh_close (keepB B6.out HB.out) DD6.out.blk hw2 O6.out
              go_roundw
              case rel => exact ⟨j + 1, x, A2, c2, wt, lt, by omega, by go_num, rfl, by rw [HS0.out], HGX.out, E2, E1⟩
              case measure => simp [intOf]; omega
        · have u1 : decide ((500 : Int) < (s.length : Int)) = true := decide_eq_true (by omega)
          have u2 : (500 : Int) < (s.length : Int) := by omega
          go_wp2
          go_ret
          exact ⟨rfl, HB.out⟩
      · have hjn : ¬ (j : Int) < (nl : Int) := by omega
        have hjn2 : decide ((j : Int) < (nl : Int)) = false := decide_eq_false hjn
        have kl := HG.out.load
        have HSM := Lib.hid (sm_check HG.out.ck)
        by_cases h0 : wt < 0
        · have KL := Lib.hid (kl.1 h0)
          have h0' : decide (wt < 0) = true := decide_eq_true h0
          clear kl
          go_wp2_with (go_at_call 18; refine (load_r KL.out HD.out HSM.out).mono ?_; rintro e w5 ⟨A5, c5, rfl, _, _, k3, hB5, _⟩; dsimp only)
          go_ret
          exact ⟨rfl, keepB hB5 HB.out⟩
        · have KL := Lib.hid (kl.2 (by omega))
          have h0' : decide (wt < 0) = false := decide_eq_false h0
          clear kl
          go_wp2_with (go_at_call 18; refine (load_r KL.out HD.out HSM.out).mono ?_; rintro e w5 ⟨A5, c5, rfl, _, _, k3, hB5, _⟩; have kc : (convert 25 9 (.slice A5 lt.length c5)).run Tryd.prog w5 = .ok (.string S0) w5 := (by rw [HS0.out]; exact conv_rd k3 c5); dsimp only)
          go_ret
          exact ⟨rfl, keepB hB5 HB.out⟩
  · have t10 : decide ((10 : Int) < (nl : Int)) = true := decide_eq_true (by omega)
    have t10' : (10 : Int) < (nl : Int) := by omega
    go_enter Tryd.func4, Tryd.ntmps4
    go_wp2_with (go_at_call 9; refine (awake_any _).mono ?_; rintro e w1 ⟨rfl, hB1⟩)
    go_ret
    exact ⟨rfl, hB1⟩
end Go.Proofs.YtgeofnemlijbgaaDoor
