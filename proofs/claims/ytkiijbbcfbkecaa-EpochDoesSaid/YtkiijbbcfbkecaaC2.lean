/- The document's Publish. -/
import Derived.Test.YtkiijbbcfbkecaaC1
import Derived.Test.YtkiijbbcfbkecaaH8
import Derived.Test.YtkiijbbcfbkecaaJ6
namespace Go.Proofs.Ytkiijbbcfbkecaa
open Go.RowKit
set_option linter.unusedVariables false
set_option linter.unusedSimpArgs false

/-- A book of the call's own is written into the result's box, and handed back. -/
theorem ret_at {w X : World} {g base : Nat} {A : Option Addr} {c : Nat} {xs : List Value} {k : Bk} {cs : Array Value} (f : Value → Value) (hX : Below w.heap.size w X) (hg : Blk X g 25 cs) (hgw : w.heap.size ≤ g) (hO : OwnE X base (.slice A k.ents.length c) xs k.ents) (hb : w.heap.size ≤ base) :
    BkRet w k f (.returned (f (bkv A k.ents.length c k.eps))) ((X.setCell ⟨g, 0, none⟩ (.slice A k.ents.length c)).setCell ⟨g, 1, none⟩ (.int .i64 k.eps)) := by
  have hgr := (grown_setCell X ⟨g, 0, none⟩ (.slice A k.ents.length c)).trans (grown_setCell _ ⟨g, 1, none⟩ (.int .i64 k.eps))
  exact ⟨A, c, xs, rfl, (hO.grownB hgr hg (by decide) (by decide)).less hb, hX.grown hgr hX.size (fun k e => by injection e with e; dsimp only at e; omega)⟩
theorem rpub_parts (k : Bk) (lab val : List UInt8) : pubE k lab val = (if checkBk k then (if itemB lab val (1 + (cntL k.ents lab : Int)) then (if cntE k.ents 0 < 8 then 0 else 191) else 100) else 190) := by
  rw [Int.add_comm]; rfl
/-- The document's functions begin alike: a box for the book, one for what is handed back. -/
theorem two_bk {w : World} {A : Option Addr} {c : Nat} {k : Bk} (hA : Ents w w.heap.size A k.ents.length k.ents) (h1 : k.ents.length ≤ c) (h2 : c ≤ maxLen) :
    BBox ((w.alloc (.cells #[.slice A k.ents.length c, .int .i64 k.eps] 25)).alloc (.cells zbk 25)) w.heap.size A c k ∧ Blk ((w.alloc (.cells #[.slice A k.ents.length c, .int .i64 k.eps] 25)).alloc (.cells zbk 25)) (w.heap.size + 1) 25 zbk ∧
    Below w.heap.size w ((w.alloc (.cells #[.slice A k.ents.length c, .int .i64 k.eps] 25)).alloc (.cells zbk 25)) ∧ ((w.alloc (.cells #[.slice A k.ents.length c, .int .i64 k.eps] 25)).alloc (.cells zbk 25)).heap.size = w.heap.size + 2 := by
  refine ⟨(BBox.arg hA h1 h2).alloc _, ?_, bel_alloc (below_one w _), by simp⟩
  have := Blk.new (w.alloc (.cells #[.slice A k.ents.length c, .int .i64 k.eps] 25)) 25 zbk
  simpa using this

set_option maxRecDepth 100000 in
set_option maxHeartbeats 8000000 in
theorem rpublish_any (A : Option Addr) (c : Nat) (k : Bk) (Al : Option Addr) (cl : Nat) (lab : List UInt8) (Av : Option Addr) (cv : Nat) (val : List UInt8) (w : World) (hA : Ents w w.heap.size A k.ents.length k.ents) (h1 : k.ents.length ≤ c) (h2 : c ≤ maxLen) (hs : SmE k.ents)
    (hL : Rd w w.heap.size Al lab.length (bvs lab)) (hV : Rd w w.heap.size Av val.length (bvs val)) (h3 : lab.length ≤ 1000) (h4 : val.length ≤ 1000) :
    Calls Try.prog 20 #[bkv A k.ents.length c k.eps, .slice Al lab.length cl, .slice Av val.length cv] w (BkRet w (pubK k lab val) (withErr (pubE k lab val))) := by
  obtain ⟨i5, hi5, hz5, hs5, hb5⟩ := info_parts infoTE
  obtain ⟨i2, hi2, hz2, hs2, hb2⟩ := info_parts infoTB
  obtain ⟨pe, hpe⟩ : ∃ pe, pe = pubE k lab val := ⟨_, rfl⟩
  obtain ⟨pk, hpk⟩ : ∃ pk, pk = pubK k lab val := ⟨_, rfl⟩
  have hkp : pe ≠ 0 → pk = k := fun h => by rw [hpk]; exact pub_keep (by rw [← hpe]; exact h)
  have hk0 : pe = 0 → pk = ⟨k.ents ++ [⟨lab, val, 1 + (cntL k.ents lab : Int), 0, false⟩], k.eps⟩ := fun h => by
    rw [hpk]; unfold pubK; rw [if_pos (by rw [← hpe]; exact h)]; unfold newEnt; rw [Int.add_comm]
  rw [← hpe, ← hpk]
  rw [rpub_parts] at hpe
  have hlen := hs.1
  have hcl : cntL k.ents lab ≤ k.ents.length := cntL_le k.ents lab
  obtain ⟨cn, hcn⟩ : ∃ cn, cn = cntL k.ents lab := ⟨_, rfl⟩
  rw [← hcn] at hpe hk0 hcl
  have HCN := Lib.hid hcn
  have hw1 : IntKind.i64.wrap (1 + (cn : Int)) = 1 + (cn : Int) := IntWalk.i64_in _ (by omega)
  have HPE := Lib.hid hpe
  have HKP := Lib.hid hkp
  have HK0 := Lib.hid hk0
  have HA := Lib.hid hA
  have HS := Lib.hid hs
  have H1 := Lib.hid h1
  have H2 := Lib.hid h2
  have HLb := Lib.hid hL
  have HVb := Lib.hid hV
  have HT := Lib.hid (two_bk hA h1 h2)
  clear hpe hpk hkp hk0 hcn hA hs h1 h2 hL hV
  go_enter Try.func20, Try.ntmps20
  go_upto_region 1 with (fail)
  generalize ((w.alloc (.cells #[.slice A k.ents.length c, .int .i64 k.eps] 25)).alloc (.cells zbk 25)) = W1 at HT ⊢
  obtain ⟨d1, z1, hB1, hsz1⟩ := HT.out
  obtain ⟨q0, q1⟩ := d1.cells
  have D1 := Lib.hid d1
  have Z1 := Lib.hid z1
  have HB1 := Lib.hid hB1
  have hsw : w.heap.size + 2 ≤ W1.heap.size := by omega
  clear HT d1 z1 hB1 hsz1
  go_upto_region 2 with (go_at_call 37; refine (rcopy_any A c k _ D1.out.ents H1.out H2.out HS.out).mono ?_; rintro e w2 ⟨AA1, cc1, xs, rfl, hO2, hB2⟩)
  have o3 := OBox.new (k := k) hO2 (Nat.le_trans (by omega : w.heap.size ≤ W1.heap.size) (Nat.le_refl _))
  have hB3 := bel_alloc (o := .cells #[.slice AA1 k.ents.length cc1, .int .i64 k.eps] 25) hB2
  have hsb := hB2.size
  generalize (w2.alloc (.cells #[.slice AA1 k.ents.length cc1, .int .i64 k.eps] 25)) = W3 at o3 hB3 ⊢
  obtain ⟨bo, hbo⟩ : ∃ bo, bo = w2.heap.size := ⟨_, rfl⟩
  rw [← hbo] at o3 hsb ⊢
  have hbo1 : w.heap.size + 2 ≤ bo := by omega
  have O3 := Lib.hid o3
  have D3 := Lib.hid (D1.out.after hB3)
  have Z3 := Lib.hid (Z1.out.below hB3 Z1.out.lt)
  have HB3 := Lib.hid (keepB hB3 HB1.out)
  obtain ⟨q0, q1⟩ := D3.out.cells
  clear hO2 hB2 hbo hB3 o3 D1 Z1 HB1 hsb hsw
  cases hck : checkBk k
  · have hpe : pe = 190 := by rw [HPE.out, hck]; rfl
    have HP := Lib.hid hpe
    have HPK := Lib.hid (HKP.out (by rw [hpe]; decide))
    have HCK := Lib.hid hck
    clear hck hpe
    go_wp2_with (go_at_call 16; refine (rcheck_any A c k _ D3.out.ents D3.out.cap D3.out.cm).mono ?_; rw [HCK.out]; simp only [errOf, Bool.false_eq_true, if_false]; rintro e w4 ⟨rfl, hB4⟩; have z4 := Z3.out.below hB4 Z3.out.lt; have o4 := O3.out.after hB4; have q2 := o4.blk.cell; have q3 := z4.cell; have q4 := z4.frozen; have Z4 := Lib.hid z4; have O4 := Lib.hid o4; have HB4 := Lib.hid (keepB hB4 HB3.out); clear hB4 z4 o4)
    refine bodyPost_ret (v := withErr 190 (bkv AA1 k.ents.length cc1 k.eps)) (by simp [results, Try.results20, go_sem, q3]) rfl ?_
    rw [HP.out, HPK.out]
    exact ret_at (withErr 190) HB4.out Z4.out (by omega) O4.out.own (by omega)
  · have HCK := Lib.hid hck
    have hpe2 := HPE.out
    rw [hck, if_pos rfl] at hpe2
    have HPE2 := Lib.hid hpe2
    clear hck hpe2
    cases hit : itemB lab val (1 + (cn : Int))
    · have hpe : pe = 100 := by rw [HPE2.out, hit]; rfl
      have HP := Lib.hid hpe
      have HPK := Lib.hid (HKP.out (by rw [hpe]; decide))
      have HIT := Lib.hid hit
      clear hit hpe
      go_wp2_with (first
        | (go_at_call 16; refine (rcheck_any A c k _ D3.out.ents D3.out.cap D3.out.cm).mono ?_; rw [HCK.out]; simp only [errOf, if_true]; rintro e w4 ⟨rfl, hB4⟩; have D4 := Lib.hid (D3.out.after hB4); have HB4 := Lib.hid (keepB hB4 HB3.out); have HB34 := Lib.hid hB4; obtain ⟨q2, q3⟩ := D4.out.cells; clear hB4)
        | (go_at_call 28; refine (many_any A c k Al cl lab k.ents.length _ D4.out.ents D4.out.cap D4.out.cm hlen (Nat.le_refl _) (rd_after HLb.out HB4.out)).mono ?_; rw [List.take_length, ← HCN.out]; rintro e w5 ⟨rfl, hB5⟩; have HB5 := Lib.hid (keepB hB5 HB34.out); clear hB5 q2 q3)
        | (go_at_call 38; refine (rc10_any Al cl Av cv (1 + (cn : Int)) lab val _).mono ?_; rw [HIT.out]; simp only [Bool.false_eq_true, if_false]; rintro e w6 ⟨rfl, hB6⟩; have hB36 := keepB hB6 HB5.out; have z6 := Z3.out.below hB36 Z3.out.lt; have o6 := O3.out.after hB36; have r2 := o6.blk.cell; have r3 := z6.cell; have r4 := z6.frozen; have Z6 := Lib.hid z6; have O6 := Lib.hid o6; have HB6 := Lib.hid (keepB hB36 HB3.out); clear hB6 hB36 z6 o6))
      refine bodyPost_ret (v := withErr 100 (bkv AA1 k.ents.length cc1 k.eps)) (by simp [results, Try.results20, go_sem, r3]) rfl ?_
      rw [HP.out, HPK.out]
      exact ret_at (withErr 100) HB6.out Z6.out (by omega) O6.out.own (by omega)
    · have HIT := Lib.hid hit
      have hpe3 := HPE2.out
      rw [hit, if_pos rfl] at hpe3
      have HPE3 := Lib.hid hpe3
      clear hit hpe3
      by_cases h8 : cntE k.ents 0 < 8
      · have hpe : pe = 0 := by rw [HPE3.out, if_pos h8]
        have HPK := Lib.hid (And.intro hpe (HK0.out hpe))
        have hge : decide ((8 : Int) ≤ (cntE k.ents 0 : Int)) = false := by simp; omega
        clear hpe h8
        go_wp2_with (first
          | (go_at_call 16; refine (rcheck_any A c k _ D3.out.ents D3.out.cap D3.out.cm).mono ?_; rw [HCK.out]; simp only [errOf, if_true]; rintro e w4 ⟨rfl, hB4⟩; have D4 := Lib.hid (D3.out.after hB4); have HB4 := Lib.hid (keepB hB4 HB3.out); have HB34 := Lib.hid hB4; obtain ⟨q2, q3⟩ := D4.out.cells; clear hB4)
          | (go_at_call 28; refine (many_any A c k Al cl lab k.ents.length _ D4.out.ents D4.out.cap D4.out.cm hlen (Nat.le_refl _) (rd_after HLb.out HB4.out)).mono ?_; rw [List.take_length, ← HCN.out]; rintro e w5 ⟨rfl, hB5⟩; have HB5 := Lib.hid (keepB hB5 HB34.out); clear hB5 q2 q3)
          | (go_at_call 38; refine (rc10_any Al cl Av cv (1 + (cn : Int)) lab val _).mono ?_; rw [HIT.out]; simp only [if_true]; rintro e w6 ⟨rfl, hB6⟩; have HB6 := Lib.hid (keepB hB6 HB5.out); have D6 := Lib.hid (D3.out.after HB6.out); obtain ⟨q2, q3⟩ := D6.out.cells; clear hB6)
          | (go_at_call 31; refine (alike_any A c k 0 _ D6.out.ents D6.out.cap D6.out.cm hlen).mono ?_; rintro e w7 ⟨rfl, hB7⟩; have HB7 := Lib.hid (keepB hB7 HB6.out); clear hB7 q2 q3))
        have HBW := Lib.hid (keepB HB7.out HB3.out)
        have ZB := Lib.hid (Z3.out.below HB7.out Z3.out.lt)
        have OB := Lib.hid (O3.out.after HB7.out)
        have BO := Lib.hid OB.out.blk
        have OWN := Lib.hid OB.out.own
        have OUT2 := Lib.hid OB.out.own.outer
        have R3 := Lib.hid (rd_after HLb.out HBW.out)
        have R4 := Lib.hid (rd_after HVb.out HBW.out)
        have BLE := Lib.hid HBW.out.size
        have MA := Lib.hid (show 0 + lab.length ≤ maxLen ∧ (0 + lab.length) * 1 ≤ 140737488355328 by unfold maxLen; omega)
        have MB := Lib.hid (show 0 + val.length ≤ maxLen ∧ (0 + val.length) * 1 ≤ 140737488355328 by unfold maxLen; omega)
        have MO := Lib.hid (show k.ents.length + 1 ≤ maxLen ∧ (k.ents.length + 1) * 72 ≤ 140737488355328 by unfold maxLen; omega)
        obtain ⟨W2, hW2⟩ : ∃ W2, W2 = w7 := ⟨_, rfl⟩
        rw [← hW2] at HBW ZB OB BO OWN OUT2 R3 R4 BLE ⊢
        clear hW2 q0 q1 HB7 D6 HB6 HB5 HB34 D4 HB4 D3 hge hw1
        have HS : Hid (∀ w' : World, Below W2.heap.size W2 w' → (fun w' : World => w'.cell? ⟨bo, 0, none⟩ = some (.slice AA1 k.ents.length cc1)) w') := Lib.hid (fun w' h => (BO.out.below h BO.out.lt).cell 0)
        have hB0 : Below W2.heap.size W2 W2.drew := bel_drew (Below.refl _ _)
        refine region_last (S := fun w' : World => w'.cell? ⟨bo, 0, none⟩ = some (.slice AA1 k.ents.length cc1)) 13 (by kernel_rfl) (by kernel_rfl) (by kernel_rfl) (HS.out _ hB0) (fun hHeld => ?_)
        refine hw_t (i := 0) (d := some 34) (v := ?_) rfl rfl (by kernel_rfl) (by kernel_rfl) (by kernel_rfl) (fun _ _ _ h => h) (by rfl) ?_ (by assumption) ?_
        rotate_left
        · intro w' hSw
          (try dsimp only at hSw)
          go_split_ands
          go_simp
          try with_reducible rfl
        try simp only [Act.put, List.setIfInBounds_toArray, List.set_cons_zero, List.set_cons_succ]
        refine hw_t (i := 1) (d := some 35) (v := ?_) rfl rfl (by kernel_rfl) (by kernel_rfl) (by kernel_rfl) (fun _ _ _ h => h) (by rfl) ?_ (by assumption) ?_
        rotate_left
        · intro w' hSw
          (try dsimp only at hSw)
          go_split_ands
          go_simp
          try with_reducible rfl
        try simp only [Act.put, List.setIfInBounds_toArray, List.set_cons_zero, List.set_cons_succ]
        refine hw_t (i := 3) (d := some 37) (v := ?_) rfl rfl (by kernel_rfl) (by kernel_rfl) (by kernel_rfl) (fun _ _ _ h => h) (by rfl) ?_ (by assumption) ?_
        rotate_left
        · intro w' hSw
          (try dsimp only at hSw)
          go_split_ands
          go_simp
          try with_reducible rfl
        try simp only [Act.put, List.setIfInBounds_toArray, List.set_cons_zero, List.set_cons_succ]
        refine hw_t (i := 6) (d := some 40) (v := ?_) rfl rfl (by kernel_rfl) (by kernel_rfl) (by kernel_rfl) (fun _ _ _ h => h) (by rfl) ?_ (by assumption) ?_
        rotate_left
        · intro w' hSw
          (try dsimp only at hSw)
          go_split_ands
          go_simp
          try with_reducible rfl
        try simp only [Act.put, List.setIfInBounds_toArray, List.set_cons_zero, List.set_cons_succ]
        refine hw_t (i := 8) (d := some 42) (v := ?_) rfl rfl (by kernel_rfl) (by kernel_rfl) (by kernel_rfl) (fun _ _ _ h => h) (by rfl) ?_ (by assumption) ?_
        rotate_left
        · intro w' hSw
          (try dsimp only at hSw)
          go_split_ands
          go_simp
          try with_reducible rfl
        try simp only [Act.put, List.setIfInBounds_toArray, List.set_cons_zero, List.set_cons_succ]
        have RA := Lib.hid (R3.out)
        have RB := Lib.hid (R4.out)
        generalize W2.drew = Y0 at hHeld hB0 ⊢
        refine wpAnyH_ready (rs := [2, 5]) (by kernel_rfl) (by simp) ?_
        refine AllReadyH.cons rfl (fun K hK => ?_) (AllReadyH.cons rfl (fun K hK => ?_) AllReadyH.nil)
        · skip
          go_simp
          have hB1 := bel_alloc (o := .cells #[] 5) hB0
          refine hK.out _ _ (HS.out _ hB1) (fun hHeld => ?_)
          clear hK K
          try simp only [Act.put, List.setIfInBounds_toArray, List.set_cons_zero, List.set_cons_succ]
          have R1 := made_row Y0 W2.heap.size hB0.size
          generalize (Y0.alloc (.cells #[] 5)) = Y1 at hHeld hB1 R1 ⊢
          generalize (Value.slice (some ⟨Y0.heap.size, 0, none⟩) 0 0) = va0 at R1 ⊢
          refine wpAnyH_ready (rs := [4, 5]) (by kernel_rfl) (by simp) ?_
          refine AllReadyH.cons rfl (fun K hK => ?_) (AllReadyH.cons rfl (fun K hK => ?_) AllReadyH.nil)
          · skip
            refine step_append_any _ (by rfl) (.tmp 36) (.tmp 37) 26 (by rfl) W2.heap.size 5 i2 (.int .u8 0) 1 1 Try.underlying26 hi2 hz2 hs2 hb2 rfl (by omega) va0 0 [] (by rfl) R1 W2.heap.size Al lab.length cl (bvs lab) (by rfl) (rd_bel RA.out hB1) (bvs_one lab) MA.out.1 MA.out.2 hB1.size ?_
            intro va1 Y2 hown hgr hat
            simp only [Nat.zero_add, List.nil_append] at hown
            have hB2 := bel_app hB1 R1 (Nat.le_refl _) hgr
            have R2 := hown
            clear hown hgr hat
            refine hK.out _ _ (HS.out _ hB2) (fun hHeld => ?_)
            clear hK K
            try simp only [Act.put, List.setIfInBounds_toArray, List.set_cons_zero, List.set_cons_succ]
            refine wpAnyH_ready (rs := [5]) (by kernel_rfl) (by simp) ?_
            refine AllReadyH.cons rfl (fun K hK => ?_) AllReadyH.nil
            go_simp
            have hB3 := bel_alloc (o := .cells #[] 5) hB2
            refine hK.out _ _ (HS.out _ hB3) (fun hHeld => ?_)
            clear hK K
            try simp only [Act.put, List.setIfInBounds_toArray, List.set_cons_zero, List.set_cons_succ]
            have T3 := TwoR.new_b R2 hB2.size
            generalize (Y2.alloc (.cells #[] 5)) = Y3 at hHeld hB3 T3 ⊢
            generalize (Value.slice (some ⟨Y2.heap.size, 0, none⟩) 0 0) = vb0 at T3 ⊢
            refine wpAnyH_ready (rs := [7]) (by kernel_rfl) (by simp) ?_
            refine AllReadyH.cons rfl (fun K hK => ?_) AllReadyH.nil
            refine step_append_any _ (by rfl) (.tmp 39) (.tmp 40) 26 (by rfl) W2.heap.size 5 i2 (.int .u8 0) 1 1 Try.underlying26 hi2 hz2 hs2 hb2 rfl (by omega) vb0 0 [] (by rfl) T3.b W2.heap.size Av val.length cv (bvs val) (by rfl) (rd_bel RB.out hB3) (bvs_one val) MB.out.1 MB.out.2 hB3.size ?_
            intro vb1 Y4 hown hgr hat
            simp only [Nat.zero_add, List.nil_append] at hown
            have hB4 := bel_app hB3 T3.b (Nat.le_refl _) hgr
            have T4 := T3.app_b hown hgr hat
            clear hown hgr hat
            refine hK.out _ _ (HS.out _ hB4) (fun hHeld => ?_)
            clear hK K
            try simp only [Act.put, List.setIfInBounds_toArray, List.set_cons_zero, List.set_cons_succ]
            obtain ⟨A1, c1, rfl, qa1, qa2⟩ := own_form T4.a
            obtain ⟨A2, c2, rfl, qb1, qb2⟩ := own_form T4.b
            refine hw_t (i := 9) (d := some 43) (v := ?_) rfl rfl (by kernel_rfl) (by kernel_rfl) (by kernel_rfl) (fun _ _ _ h => h) (by rfl) ?_ (by assumption) ?_
            rotate_left
            · intro w' hSw
              (try dsimp only at hSw)
              go_split_ands
              go_simp
              try with_reducible rfl
            try simp only [Act.put, List.setIfInBounds_toArray, List.set_cons_zero, List.set_cons_succ]
            refine wpAnyH_ready (rs := [10]) (by kernel_rfl) (by simp) ?_
            refine AllReadyH.cons rfl (fun K hK => ?_) AllReadyH.nil
            go_simp
            have hB5 := bel_alloc (o := .cells #[.slice A1 lab.length c1, .slice A2 val.length c2, (.int .i64 (1 + (cn : Int))), (.int .i64 0), (.bool false)] 49) hB4
            refine hK.out _ _ (HS.out _ hB5) (fun hHeld => ?_)
            clear hK K
            try simp only [Act.put, List.setIfInBounds_toArray, List.set_cons_zero, List.set_cons_succ]
            have RE := rd_new5 Y4 (.slice A1 lab.length c1) (.slice A2 val.length c2) (.int .i64 (1 + (cn : Int))) (.int .i64 0) (.bool false) 49
            have OU := (own_b hB4 OUT2.out).alloc (.cells #[.slice A1 lab.length c1, .slice A2 val.length c2, (.int .i64 (1 + (cn : Int))), (.int .i64 0), (.bool false)] 49)
            refine wpAnyH_ready (rs := [11]) (by kernel_rfl) (by simp) ?_
            refine AllReadyH.cons rfl (fun K hK => ?_) AllReadyH.nil
            refine step_append_any _ (by rfl) (.tmp 35) (.tmp 44) 23 (by rfl) w.heap.size 49 i5 (.agg zbe) 5 72 Try.underlying23 hi5 hz5 hs5 hb5 rfl (by omega) (.slice AA1 k.ents.length cc1) k.ents.length xs (by rfl) OU (Y4.heap.size + 1) (some ⟨Y4.heap.size, 0, none⟩) 1 1 [.slice A1 lab.length c1, .slice A2 val.length c2, (.int .i64 (1 + (cn : Int))), (.int .i64 0), (.bool false)] (by rfl) RE (ent_one _ _ _ _ _ _ _ _ _) MO.out.1 MO.out.2 (Nat.le_trans BLE.out (Nat.le_trans hB4.size (by simp))) ?_
            intro v9 X9 hown9 hgr9 hat9
            obtain ⟨A9, c9, rfl, q5, q6⟩ := own_form hown9
            have b9o := blk_far hgr9 ((BO.out.below hB4 BO.out.lt).alloc _) OU (by decide)
            refine hK.out _ _ (b9o.cell 0) (fun hHeld => ?_)
            clear hK K
            try simp only [Act.put, List.setIfInBounds_toArray, List.set_cons_zero, List.set_cons_succ]
            refine hw_t (i := 12) (d := some 46) (v := ?_) rfl rfl (by kernel_rfl) (by kernel_rfl) (by kernel_rfl) (fun _ _ _ h => h) (by rfl) ?_ (by assumption) ?_
            rotate_left
            · intro w' hSw
              (try dsimp only at hSw)
              go_split_ands
              go_simp
              try with_reducible rfl
            try simp only [Act.put, List.setIfInBounds_toArray, List.set_cons_zero, List.set_cons_succ]
            refine wpAnyH_done (by kernel_rfl) ?_ _
            refine last_step rfl (fun K hK => ?_)
            have cl9 := b9o.cell
            have fz9 := b9o.frozen
            go_simp
            refine hK.out _ _ ?_
            clear hK K
            try simp only [Act.put, List.setIfInBounds_toArray, List.set_cons_zero, List.set_cons_succ]
            have F := app_close (x := ⟨lab, val, 1 + (cn : Int), 0, false⟩) (n0 := w.heap.size) (Nat.le_refl _) (by omega) BLE.out HBW.out OWN.out hB4 T4 BO.out hown9 hgr9
            obtain ⟨F1, F2, F3, F4, F5⟩ := F
            have G1 := F4 _ _ (by omega) ZB.out
            generalize (X9.setCell ⟨bo, 0, none⟩ (.slice A9 (k.ents.length + 1) c9)) = Xf at F1 F2 F3 F4 F5 G1 ⊢
            have cF := F3.cell
            have cG := G1.cell
            have fG := G1.frozen
            have HF1 := Lib.hid F1
            have HF2 := Lib.hid F2
            have HG1 := Lib.hid G1
            clear F1 F2 F3 F4 F5 G1 cl9 fz9 b9o hown9 hgr9 hat9
            go_wp2
            refine bodyPost_ret (v := withErr 0 (bkv A9 (k.ents.length + 1) c9 k.eps)) (by simp [results, Try.results20, go_sem, cG]) rfl ?_
            rw [HPK.out.1, HPK.out.2]
            have hl9 : (k.ents ++ [(⟨lab, val, 1 + (cn : Int), 0, false⟩ : Ent)]).length = k.ents.length + 1 := by simp
            have R := ret_at (k := ⟨k.ents ++ [(⟨lab, val, 1 + (cn : Int), 0, false⟩ : Ent)], k.eps⟩) (withErr 0) HF2.out HG1.out (by omega) HF1.out (Nat.le_refl _)
            simp only [hl9] at R
            exact R
          · skip
            go_simp
            have hB2 := bel_alloc (o := .cells #[] 5) hB1
            refine hK.out _ _ (HS.out _ hB2) (fun hHeld => ?_)
            clear hK K
            try simp only [Act.put, List.setIfInBounds_toArray, List.set_cons_zero, List.set_cons_succ]
            have T2 := TwoR.new_b R1 hB1.size
            generalize (Y1.alloc (.cells #[] 5)) = Y2 at hHeld hB2 T2 ⊢
            generalize (Value.slice (some ⟨Y1.heap.size, 0, none⟩) 0 0) = vb0 at T2 ⊢
            refine wpAnyH_ready (rs := [4]) (by kernel_rfl) (by simp) ?_
            refine AllReadyH.cons rfl (fun K hK => ?_) AllReadyH.nil
            refine step_append_any _ (by rfl) (.tmp 36) (.tmp 37) 26 (by rfl) W2.heap.size 5 i2 (.int .u8 0) 1 1 Try.underlying26 hi2 hz2 hs2 hb2 rfl (by omega) va0 0 [] (by rfl) T2.a W2.heap.size Al lab.length cl (bvs lab) (by rfl) (rd_bel RA.out hB2) (bvs_one lab) MA.out.1 MA.out.2 hB2.size ?_
            intro va1 Y3 hown hgr hat
            simp only [Nat.zero_add, List.nil_append] at hown
            have hB3 := bel_app hB2 T2.a (Nat.le_refl _) hgr
            have T3 := T2.app_a hown hgr hat
            clear hown hgr hat
            refine hK.out _ _ (HS.out _ hB3) (fun hHeld => ?_)
            clear hK K
            try simp only [Act.put, List.setIfInBounds_toArray, List.set_cons_zero, List.set_cons_succ]
            refine wpAnyH_ready (rs := [7]) (by kernel_rfl) (by simp) ?_
            refine AllReadyH.cons rfl (fun K hK => ?_) AllReadyH.nil
            refine step_append_any _ (by rfl) (.tmp 39) (.tmp 40) 26 (by rfl) W2.heap.size 5 i2 (.int .u8 0) 1 1 Try.underlying26 hi2 hz2 hs2 hb2 rfl (by omega) vb0 0 [] (by rfl) T3.b W2.heap.size Av val.length cv (bvs val) (by rfl) (rd_bel RB.out hB3) (bvs_one val) MB.out.1 MB.out.2 hB3.size ?_
            intro vb1 Y4 hown hgr hat
            simp only [Nat.zero_add, List.nil_append] at hown
            have hB4 := bel_app hB3 T3.b (Nat.le_refl _) hgr
            have T4 := T3.app_b hown hgr hat
            clear hown hgr hat
            refine hK.out _ _ (HS.out _ hB4) (fun hHeld => ?_)
            clear hK K
            try simp only [Act.put, List.setIfInBounds_toArray, List.set_cons_zero, List.set_cons_succ]
            obtain ⟨A1, c1, rfl, qa1, qa2⟩ := own_form T4.a
            obtain ⟨A2, c2, rfl, qb1, qb2⟩ := own_form T4.b
            refine hw_t (i := 9) (d := some 43) (v := ?_) rfl rfl (by kernel_rfl) (by kernel_rfl) (by kernel_rfl) (fun _ _ _ h => h) (by rfl) ?_ (by assumption) ?_
            rotate_left
            · intro w' hSw
              (try dsimp only at hSw)
              go_split_ands
              go_simp
              try with_reducible rfl
            try simp only [Act.put, List.setIfInBounds_toArray, List.set_cons_zero, List.set_cons_succ]
            refine wpAnyH_ready (rs := [10]) (by kernel_rfl) (by simp) ?_
            refine AllReadyH.cons rfl (fun K hK => ?_) AllReadyH.nil
            go_simp
            have hB5 := bel_alloc (o := .cells #[.slice A1 lab.length c1, .slice A2 val.length c2, (.int .i64 (1 + (cn : Int))), (.int .i64 0), (.bool false)] 49) hB4
            refine hK.out _ _ (HS.out _ hB5) (fun hHeld => ?_)
            clear hK K
            try simp only [Act.put, List.setIfInBounds_toArray, List.set_cons_zero, List.set_cons_succ]
            have RE := rd_new5 Y4 (.slice A1 lab.length c1) (.slice A2 val.length c2) (.int .i64 (1 + (cn : Int))) (.int .i64 0) (.bool false) 49
            have OU := (own_b hB4 OUT2.out).alloc (.cells #[.slice A1 lab.length c1, .slice A2 val.length c2, (.int .i64 (1 + (cn : Int))), (.int .i64 0), (.bool false)] 49)
            refine wpAnyH_ready (rs := [11]) (by kernel_rfl) (by simp) ?_
            refine AllReadyH.cons rfl (fun K hK => ?_) AllReadyH.nil
            refine step_append_any _ (by rfl) (.tmp 35) (.tmp 44) 23 (by rfl) w.heap.size 49 i5 (.agg zbe) 5 72 Try.underlying23 hi5 hz5 hs5 hb5 rfl (by omega) (.slice AA1 k.ents.length cc1) k.ents.length xs (by rfl) OU (Y4.heap.size + 1) (some ⟨Y4.heap.size, 0, none⟩) 1 1 [.slice A1 lab.length c1, .slice A2 val.length c2, (.int .i64 (1 + (cn : Int))), (.int .i64 0), (.bool false)] (by rfl) RE (ent_one _ _ _ _ _ _ _ _ _) MO.out.1 MO.out.2 (Nat.le_trans BLE.out (Nat.le_trans hB4.size (by simp))) ?_
            intro v9 X9 hown9 hgr9 hat9
            obtain ⟨A9, c9, rfl, q5, q6⟩ := own_form hown9
            have b9o := blk_far hgr9 ((BO.out.below hB4 BO.out.lt).alloc _) OU (by decide)
            refine hK.out _ _ (b9o.cell 0) (fun hHeld => ?_)
            clear hK K
            try simp only [Act.put, List.setIfInBounds_toArray, List.set_cons_zero, List.set_cons_succ]
            refine hw_t (i := 12) (d := some 46) (v := ?_) rfl rfl (by kernel_rfl) (by kernel_rfl) (by kernel_rfl) (fun _ _ _ h => h) (by rfl) ?_ (by assumption) ?_
            rotate_left
            · intro w' hSw
              (try dsimp only at hSw)
              go_split_ands
              go_simp
              try with_reducible rfl
            try simp only [Act.put, List.setIfInBounds_toArray, List.set_cons_zero, List.set_cons_succ]
            refine wpAnyH_done (by kernel_rfl) ?_ _
            refine last_step rfl (fun K hK => ?_)
            have cl9 := b9o.cell
            have fz9 := b9o.frozen
            go_simp
            refine hK.out _ _ ?_
            clear hK K
            try simp only [Act.put, List.setIfInBounds_toArray, List.set_cons_zero, List.set_cons_succ]
            have F := app_close (x := ⟨lab, val, 1 + (cn : Int), 0, false⟩) (n0 := w.heap.size) (Nat.le_refl _) (by omega) BLE.out HBW.out OWN.out hB4 T4 BO.out hown9 hgr9
            obtain ⟨F1, F2, F3, F4, F5⟩ := F
            have G1 := F4 _ _ (by omega) ZB.out
            generalize (X9.setCell ⟨bo, 0, none⟩ (.slice A9 (k.ents.length + 1) c9)) = Xf at F1 F2 F3 F4 F5 G1 ⊢
            have cF := F3.cell
            have cG := G1.cell
            have fG := G1.frozen
            have HF1 := Lib.hid F1
            have HF2 := Lib.hid F2
            have HG1 := Lib.hid G1
            clear F1 F2 F3 F4 F5 G1 cl9 fz9 b9o hown9 hgr9 hat9
            go_wp2
            refine bodyPost_ret (v := withErr 0 (bkv A9 (k.ents.length + 1) c9 k.eps)) (by simp [results, Try.results20, go_sem, cG]) rfl ?_
            rw [HPK.out.1, HPK.out.2]
            have hl9 : (k.ents ++ [(⟨lab, val, 1 + (cn : Int), 0, false⟩ : Ent)]).length = k.ents.length + 1 := by simp
            have R := ret_at (k := ⟨k.ents ++ [(⟨lab, val, 1 + (cn : Int), 0, false⟩ : Ent)], k.eps⟩) (withErr 0) HF2.out HG1.out (by omega) HF1.out (Nat.le_refl _)
            simp only [hl9] at R
            exact R
        · skip
          go_simp
          have hB1 := bel_alloc (o := .cells #[] 5) hB0
          refine hK.out _ _ (HS.out _ hB1) (fun hHeld => ?_)
          clear hK K
          try simp only [Act.put, List.setIfInBounds_toArray, List.set_cons_zero, List.set_cons_succ]
          have R1 := made_row Y0 W2.heap.size hB0.size
          generalize (Y0.alloc (.cells #[] 5)) = Y1 at hHeld hB1 R1 ⊢
          generalize (Value.slice (some ⟨Y0.heap.size, 0, none⟩) 0 0) = vb0 at R1 ⊢
          refine wpAnyH_ready (rs := [2]) (by kernel_rfl) (by simp) ?_
          refine AllReadyH.cons rfl (fun K hK => ?_) AllReadyH.nil
          go_simp
          have hB2 := bel_alloc (o := .cells #[] 5) hB1
          refine hK.out _ _ (HS.out _ hB2) (fun hHeld => ?_)
          clear hK K
          try simp only [Act.put, List.setIfInBounds_toArray, List.set_cons_zero, List.set_cons_succ]
          have T2 := TwoR.new_a R1 hB1.size
          generalize (Y1.alloc (.cells #[] 5)) = Y2 at hHeld hB2 T2 ⊢
          generalize (Value.slice (some ⟨Y1.heap.size, 0, none⟩) 0 0) = va0 at T2 ⊢
          refine wpAnyH_ready (rs := [4]) (by kernel_rfl) (by simp) ?_
          refine AllReadyH.cons rfl (fun K hK => ?_) AllReadyH.nil
          refine step_append_any _ (by rfl) (.tmp 36) (.tmp 37) 26 (by rfl) W2.heap.size 5 i2 (.int .u8 0) 1 1 Try.underlying26 hi2 hz2 hs2 hb2 rfl (by omega) va0 0 [] (by rfl) T2.a W2.heap.size Al lab.length cl (bvs lab) (by rfl) (rd_bel RA.out hB2) (bvs_one lab) MA.out.1 MA.out.2 hB2.size ?_
          intro va1 Y3 hown hgr hat
          simp only [Nat.zero_add, List.nil_append] at hown
          have hB3 := bel_app hB2 T2.a (Nat.le_refl _) hgr
          have T3 := T2.app_a hown hgr hat
          clear hown hgr hat
          refine hK.out _ _ (HS.out _ hB3) (fun hHeld => ?_)
          clear hK K
          try simp only [Act.put, List.setIfInBounds_toArray, List.set_cons_zero, List.set_cons_succ]
          refine wpAnyH_ready (rs := [7]) (by kernel_rfl) (by simp) ?_
          refine AllReadyH.cons rfl (fun K hK => ?_) AllReadyH.nil
          refine step_append_any _ (by rfl) (.tmp 39) (.tmp 40) 26 (by rfl) W2.heap.size 5 i2 (.int .u8 0) 1 1 Try.underlying26 hi2 hz2 hs2 hb2 rfl (by omega) vb0 0 [] (by rfl) T3.b W2.heap.size Av val.length cv (bvs val) (by rfl) (rd_bel RB.out hB3) (bvs_one val) MB.out.1 MB.out.2 hB3.size ?_
          intro vb1 Y4 hown hgr hat
          simp only [Nat.zero_add, List.nil_append] at hown
          have hB4 := bel_app hB3 T3.b (Nat.le_refl _) hgr
          have T4 := T3.app_b hown hgr hat
          clear hown hgr hat
          refine hK.out _ _ (HS.out _ hB4) (fun hHeld => ?_)
          clear hK K
          try simp only [Act.put, List.setIfInBounds_toArray, List.set_cons_zero, List.set_cons_succ]
          obtain ⟨A1, c1, rfl, qa1, qa2⟩ := own_form T4.a
          obtain ⟨A2, c2, rfl, qb1, qb2⟩ := own_form T4.b
          refine hw_t (i := 9) (d := some 43) (v := ?_) rfl rfl (by kernel_rfl) (by kernel_rfl) (by kernel_rfl) (fun _ _ _ h => h) (by rfl) ?_ (by assumption) ?_
          rotate_left
          · intro w' hSw
            (try dsimp only at hSw)
            go_split_ands
            go_simp
            try with_reducible rfl
          try simp only [Act.put, List.setIfInBounds_toArray, List.set_cons_zero, List.set_cons_succ]
          refine wpAnyH_ready (rs := [10]) (by kernel_rfl) (by simp) ?_
          refine AllReadyH.cons rfl (fun K hK => ?_) AllReadyH.nil
          go_simp
          have hB5 := bel_alloc (o := .cells #[.slice A1 lab.length c1, .slice A2 val.length c2, (.int .i64 (1 + (cn : Int))), (.int .i64 0), (.bool false)] 49) hB4
          refine hK.out _ _ (HS.out _ hB5) (fun hHeld => ?_)
          clear hK K
          try simp only [Act.put, List.setIfInBounds_toArray, List.set_cons_zero, List.set_cons_succ]
          have RE := rd_new5 Y4 (.slice A1 lab.length c1) (.slice A2 val.length c2) (.int .i64 (1 + (cn : Int))) (.int .i64 0) (.bool false) 49
          have OU := (own_b hB4 OUT2.out).alloc (.cells #[.slice A1 lab.length c1, .slice A2 val.length c2, (.int .i64 (1 + (cn : Int))), (.int .i64 0), (.bool false)] 49)
          refine wpAnyH_ready (rs := [11]) (by kernel_rfl) (by simp) ?_
          refine AllReadyH.cons rfl (fun K hK => ?_) AllReadyH.nil
          refine step_append_any _ (by rfl) (.tmp 35) (.tmp 44) 23 (by rfl) w.heap.size 49 i5 (.agg zbe) 5 72 Try.underlying23 hi5 hz5 hs5 hb5 rfl (by omega) (.slice AA1 k.ents.length cc1) k.ents.length xs (by rfl) OU (Y4.heap.size + 1) (some ⟨Y4.heap.size, 0, none⟩) 1 1 [.slice A1 lab.length c1, .slice A2 val.length c2, (.int .i64 (1 + (cn : Int))), (.int .i64 0), (.bool false)] (by rfl) RE (ent_one _ _ _ _ _ _ _ _ _) MO.out.1 MO.out.2 (Nat.le_trans BLE.out (Nat.le_trans hB4.size (by simp))) ?_
          intro v9 X9 hown9 hgr9 hat9
          obtain ⟨A9, c9, rfl, q5, q6⟩ := own_form hown9
          have b9o := blk_far hgr9 ((BO.out.below hB4 BO.out.lt).alloc _) OU (by decide)
          refine hK.out _ _ (b9o.cell 0) (fun hHeld => ?_)
          clear hK K
          try simp only [Act.put, List.setIfInBounds_toArray, List.set_cons_zero, List.set_cons_succ]
          refine hw_t (i := 12) (d := some 46) (v := ?_) rfl rfl (by kernel_rfl) (by kernel_rfl) (by kernel_rfl) (fun _ _ _ h => h) (by rfl) ?_ (by assumption) ?_
          rotate_left
          · intro w' hSw
            (try dsimp only at hSw)
            go_split_ands
            go_simp
            try with_reducible rfl
          try simp only [Act.put, List.setIfInBounds_toArray, List.set_cons_zero, List.set_cons_succ]
          refine wpAnyH_done (by kernel_rfl) ?_ _
          refine last_step rfl (fun K hK => ?_)
          have cl9 := b9o.cell
          have fz9 := b9o.frozen
          go_simp
          refine hK.out _ _ ?_
          clear hK K
          try simp only [Act.put, List.setIfInBounds_toArray, List.set_cons_zero, List.set_cons_succ]
          have F := app_close (x := ⟨lab, val, 1 + (cn : Int), 0, false⟩) (n0 := w.heap.size) (Nat.le_refl _) (by omega) BLE.out HBW.out OWN.out hB4 T4 BO.out hown9 hgr9
          obtain ⟨F1, F2, F3, F4, F5⟩ := F
          have G1 := F4 _ _ (by omega) ZB.out
          generalize (X9.setCell ⟨bo, 0, none⟩ (.slice A9 (k.ents.length + 1) c9)) = Xf at F1 F2 F3 F4 F5 G1 ⊢
          have cF := F3.cell
          have cG := G1.cell
          have fG := G1.frozen
          have HF1 := Lib.hid F1
          have HF2 := Lib.hid F2
          have HG1 := Lib.hid G1
          clear F1 F2 F3 F4 F5 G1 cl9 fz9 b9o hown9 hgr9 hat9
          go_wp2
          refine bodyPost_ret (v := withErr 0 (bkv A9 (k.ents.length + 1) c9 k.eps)) (by simp [results, Try.results20, go_sem, cG]) rfl ?_
          rw [HPK.out.1, HPK.out.2]
          have hl9 : (k.ents ++ [(⟨lab, val, 1 + (cn : Int), 0, false⟩ : Ent)]).length = k.ents.length + 1 := by simp
          have R := ret_at (k := ⟨k.ents ++ [(⟨lab, val, 1 + (cn : Int), 0, false⟩ : Ent)], k.eps⟩) (withErr 0) HF2.out HG1.out (by omega) HF1.out (Nat.le_refl _)
          simp only [hl9] at R
          exact R
      · have hpe : pe = 191 := by rw [HPE3.out, if_neg h8]
        have HP := Lib.hid hpe
        have HPK := Lib.hid (HKP.out (by rw [hpe]; decide))
        have hge : decide ((8 : Int) ≤ (cntE k.ents 0 : Int)) = true := by simp; omega
        clear hpe h8
        go_wp2_with (first
          | (go_at_call 16; refine (rcheck_any A c k _ D3.out.ents D3.out.cap D3.out.cm).mono ?_; rw [HCK.out]; simp only [errOf, if_true]; rintro e w4 ⟨rfl, hB4⟩; have D4 := Lib.hid (D3.out.after hB4); have HB4 := Lib.hid (keepB hB4 HB3.out); have HB34 := Lib.hid hB4; obtain ⟨q2, q3⟩ := D4.out.cells; clear hB4)
          | (go_at_call 28; refine (many_any A c k Al cl lab k.ents.length _ D4.out.ents D4.out.cap D4.out.cm hlen (Nat.le_refl _) (rd_after HLb.out HB4.out)).mono ?_; rw [List.take_length, ← HCN.out]; rintro e w5 ⟨rfl, hB5⟩; have HB5 := Lib.hid (keepB hB5 HB34.out); clear hB5 q2 q3)
          | (go_at_call 38; refine (rc10_any Al cl Av cv (1 + (cn : Int)) lab val _).mono ?_; rw [HIT.out]; simp only [if_true]; rintro e w6 ⟨rfl, hB6⟩; have HB6 := Lib.hid (keepB hB6 HB5.out); have D6 := Lib.hid (D3.out.after HB6.out); obtain ⟨q2, q3⟩ := D6.out.cells; clear hB6)
          | (go_at_call 31; refine (alike_any A c k 0 _ D6.out.ents D6.out.cap D6.out.cm hlen).mono ?_; rintro e w7 ⟨rfl, hB7⟩; have hB37 := keepB hB7 HB6.out; have z7 := Z3.out.below hB37 Z3.out.lt; have o7 := O3.out.after hB37; have r2 := o7.blk.cell; have r3 := z7.cell; have r4 := z7.frozen; have Z7 := Lib.hid z7; have O7 := Lib.hid o7; have HB7 := Lib.hid (keepB hB37 HB3.out); clear hB7 hB37 z7 o7 q2 q3))
        refine bodyPost_ret (v := withErr 191 (bkv AA1 k.ents.length cc1 k.eps)) (by simp [results, Try.results20, go_sem, r3]) rfl ?_
        rw [HP.out, HPK.out]
        exact ret_at (withErr 191) HB7.out Z7.out (by omega) O7.out.own (by omega)
end Go.Proofs.Ytkiijbbcfbkecaa
