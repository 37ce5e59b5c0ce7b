/- The document's Copy of a book. -/
import Derived.Test.YtkiijbbcfbkecaaC0
import Derived.Deep.DeepCutAuto
namespace Go.Proofs.Ytkiijbbcfbkecaa
open Go.RowKit
set_option linter.unusedVariables false
set_option linter.unusedSimpArgs false

/-- Three boxes, then nothing older is written. -/
theorem three_bk (w : World) (a b c : Array Value) : Blk (((w.alloc (.cells a 25)).alloc (.cells b 25)).alloc (.cells c 25)) w.heap.size 25 a ∧ Blk (((w.alloc (.cells a 25)).alloc (.cells b 25)).alloc (.cells c 25)) (w.heap.size + 1) 25 b ∧ Blk (((w.alloc (.cells a 25)).alloc (.cells b 25)).alloc (.cells c 25)) (w.heap.size + 1 + 1) 25 c ∧ Below w.heap.size w (((w.alloc (.cells a 25)).alloc (.cells b 25)).alloc (.cells c 25)) := by
  refine ⟨((Blk.new w _ a).alloc _).alloc _, ?_, ?_, bel_alloc (bel_alloc (below_one w _))⟩
  · have := (Blk.new (w.alloc (.cells a 25)) 25 b).alloc (.cells c 25)
    simpa using this
  · have := Blk.new ((w.alloc (.cells a 25)).alloc (.cells b 25)) 25 c
    simpa using this
theorem own_none (w : World) (base : Nat) : OwnE w base (.slice none 0 0) [] [] := ⟨World.ownsRow_nil _ _ _ _, fun i x hx => by simp at hx⟩

set_option maxRecDepth 100000 in
set_option maxHeartbeats 8000000 in
theorem rcopy_any (A : Option Addr) (c : Nat) (k : Bk) (w : World) (hA : Ents w w.heap.size A k.ents.length k.ents) (h1 : k.ents.length ≤ c) (h2 : c ≤ maxLen) (hs : SmE k.ents) :
    Calls Try.prog 37 #[bkv A k.ents.length c k.eps] w (BkRet w k id) := by
  obtain ⟨i5, hi5, hz5, hs5, hb5⟩ := info_parts infoTE
  obtain ⟨i2, hi2, hz2, hs2, hb2⟩ := info_parts infoTB
  have HS0 := Lib.hid hs
  have HA := Lib.hid hA
  obtain ⟨ents, eps⟩ := k
  dsimp only at hs HS0 HA ⊢
  have hn1 : ents.length ≤ 1000 := hs.1
  clear hA h1 h2 hs
  go_enter Try.func37, Try.ntmps37
  go_wp2_with fail
  go_loopw [4] (fun i wr => ∃ (j : Nat) (V : Value) (xs : List Value), j ≤ ents.length ∧ i = .int .i64 j ∧ OwnE wr (w.heap.size + 3) V xs (ents.take j) ∧ Below w.heap.size w wr ∧ Blk wr w.heap.size 25 #[.slice A ents.length c, .int .i64 eps] ∧ Blk wr (w.heap.size + 1) 25 zbk ∧ Blk wr (w.heap.size + 1 + 1) 25 #[V, .int .i64 eps]) (fun i _ => ents.length - (intOf i).toNat)
  case atStart =>
    obtain ⟨x1, x2, x3, x4⟩ := three_bk w #[.slice A ents.length c, .int .i64 eps] zbk #[.slice none 0 0, .int .i64 eps]
    exact ⟨0, _, [], Nat.zero_le _, rfl, by simpa using own_none _ _, x4, x1, x2, x3⟩
  case round =>
    obtain ⟨j, V, xs, hj, rfl, hO, hB, r0, r1, r2⟩ := hrel
    obtain ⟨A0, c0, rfl, e1, e2⟩ := hO.form
    obtain ⟨es, hes⟩ : ∃ es, es = ents.take j := ⟨_, rfl⟩
    rw [← hes] at hO e1 r2
    have hel : es.length = j := by rw [hes, List.length_take]; omega
    have JO := Lib.hid hO
    have JB := Lib.hid hB
    have B0 := Lib.hid r0
    have B1 := Lib.hid r1
    have BOR := Lib.hid r2
    have JE := Lib.hid (HA.out.below hB)
    have EL := Lib.hid hel
    have ES := Lib.hid hes
    have hlr := r2.lt
    have BLR := Lib.hid (show w.heap.size + 3 ≤ wr.heap.size by omega)
    have c0r := r0.cell
    by_cases hlt : j < ents.length
    · clear r0 r1 hO hes
      obtain ⟨xb, xo, ⟨xl, xv, xver, xep, xer⟩, Ax, cx, Ay, cy, rfl, hb, hx, k1, k2, k3, k4, k5, p1, p2, p3, s1, s2, s3⟩ := JE.out.at_ hlt
      obtain ⟨hl1, hl2⟩ := HS0.out.2 j _ hx
      dsimp only at k1 k2 k3 k4 k5 p1 p2 p3 s1 s2 s3 hl1 hl2
      have EX := Lib.hid (show ents.take (j + 1) = es ++ [⟨xl, xv, xver, xep, xer⟩] by rw [ES.out]; exact take_snoc_of hx)
      have hk0 : (0 : Int) ≤ (j : Int) := by omega
      have hk1 : (j : Int) < (ents.length : Int) := by omega
      have MA := Lib.hid (show 0 + xl.length ≤ maxLen ∧ (0 + xl.length) * 1 ≤ 140737488355328 by unfold maxLen; omega)
      have MB := Lib.hid (show 0 + xv.length ≤ maxLen ∧ (0 + xv.length) * 1 ≤ 140737488355328 by unfold maxLen; omega)
      have MO := Lib.hid (show es.length + 1 ≤ maxLen ∧ (es.length + 1) * 72 ≤ 140737488355328 by unfold maxLen; omega)
      have P3 := Lib.hid (p3.more hB.size)
      have S3 := Lib.hid (s3.more hB.size)
      have bx : Blk (wr.alloc (.cells #[.slice Ax xl.length cx, .slice Ay xv.length cy, .int .i64 xver, .int .i64 xep, .bool xer] 49)) wr.heap.size 49 #[.slice Ax xl.length cx, .slice Ay xv.length cy, .int .i64 xver, .int .i64 xep, .bool xer] := Blk.new wr _ _
      have hB2 : Below wr.heap.size wr (wr.alloc (.cells #[.slice Ax xl.length cx, .slice Ay xv.length cy, .int .i64 xver, .int .i64 xep, .bool xer] 49)) := below_one wr _
      clear p3 s3 hB r2 hx hel
      go_wp2_with fail
      generalize (wr.alloc (.cells #[.slice Ax xl.length cx, .slice Ay xv.length cy, .int .i64 xver, .int .i64 xep, .bool xer] 49)) = W2 at bx hB2 ⊢
      have R3 := Lib.hid (rd_after P3.out hB2)
      have R4 := Lib.hid (rd_after S3.out hB2)
      have HB2 := Lib.hid hB2
      have BX := Lib.hid bx
      have BO := Lib.hid (BOR.out.below hB2 BOR.out.lt)
      have OUTR := Lib.hid JO.out.outer
      have OUT2 := Lib.hid (own_b hB2 JO.out.outer)
      have BLE := Lib.hid (Nat.le_trans BLR.out hB2.size)
      clear k1 k2 k3 k4 k5 P3 S3 hB2 bx c0r
      have HS : Hid (∀ w' : World, Below W2.heap.size W2 w' → (fun w' : World => w'.cell? ⟨wr.heap.size, 0, none⟩ = some (.slice Ax xl.length cx) ∧ w'.cell? ⟨wr.heap.size, 1, none⟩ = some (.slice Ay xv.length cy) ∧ w'.cell? ⟨wr.heap.size, 2, none⟩ = some (.int .i64 xver) ∧ w'.cell? ⟨wr.heap.size, 3, none⟩ = some (.int .i64 xep) ∧ w'.cell? ⟨wr.heap.size, 4, none⟩ = some (.bool xer) ∧ w'.cell? ⟨w.heap.size + 1 + 1, 0, none⟩ = some (.slice A0 es.length c0)) w') := Lib.hid (fun w' h => ⟨(BX.out.below h BX.out.lt).cell 0, (BX.out.below h BX.out.lt).cell 1, (BX.out.below h BX.out.lt).cell 2, (BX.out.below h BX.out.lt).cell 3, (BX.out.below h BX.out.lt).cell 4, (BO.out.below h BO.out.lt).cell 0⟩)
      have hB0 : Below W2.heap.size W2 W2.drew := bel_drew (Below.refl _ _)
      refine region_last (S := fun w' : World => w'.cell? ⟨wr.heap.size, 0, none⟩ = some (.slice Ax xl.length cx) ∧ w'.cell? ⟨wr.heap.size, 1, none⟩ = some (.slice Ay xv.length cy) ∧ w'.cell? ⟨wr.heap.size, 2, none⟩ = some (.int .i64 xver) ∧ w'.cell? ⟨wr.heap.size, 3, none⟩ = some (.int .i64 xep) ∧ w'.cell? ⟨wr.heap.size, 4, none⟩ = some (.bool xer) ∧ w'.cell? ⟨w.heap.size + 1 + 1, 0, none⟩ = some (.slice A0 es.length c0)) 20 (by kernel_rfl) (by kernel_rfl) (by kernel_rfl) (HS.out _ hB0) (fun hHeld => ?_)
      refine hw_t (i := 0) (d := some 21) (v := ?_) rfl rfl (by kernel_rfl) (by kernel_rfl) (by kernel_rfl) (fun _ _ _ h => h) (by rfl) ?_ (by assumption) ?_
      rotate_left
      · intro w' hSw
        (try dsimp only at hSw)
        go_split_ands
        go_simp
        try with_reducible rfl
      try simp only [Act.put, List.setIfInBounds_toArray, List.set_cons_zero, List.set_cons_succ]
      refine hw_t (i := 1) (d := some 22) (v := ?_) rfl rfl (by kernel_rfl) (by kernel_rfl) (by kernel_rfl) (fun _ _ _ h => h) (by rfl) ?_ (by assumption) ?_
      rotate_left
      · intro w' hSw
        (try dsimp only at hSw)
        go_split_ands
        go_simp
        try with_reducible rfl
      try simp only [Act.put, List.setIfInBounds_toArray, List.set_cons_zero, List.set_cons_succ]
      refine hw_t (i := 3) (d := some 24) (v := ?_) rfl rfl (by kernel_rfl) (by kernel_rfl) (by kernel_rfl) (fun _ _ _ h => h) (by rfl) ?_ (by assumption) ?_
      rotate_left
      · intro w' hSw
        (try dsimp only at hSw)
        go_split_ands
        go_simp
        try with_reducible rfl
      try simp only [Act.put, List.setIfInBounds_toArray, List.set_cons_zero, List.set_cons_succ]
      refine hw_t (i := 4) (d := some 25) (v := ?_) rfl rfl (by kernel_rfl) (by kernel_rfl) (by kernel_rfl) (fun _ _ _ h => h) (by rfl) ?_ (by assumption) ?_
      rotate_left
      · intro w' hSw
        (try dsimp only at hSw)
        go_split_ands
        go_simp
        try with_reducible rfl
      try simp only [Act.put, List.setIfInBounds_toArray, List.set_cons_zero, List.set_cons_succ]
      refine hw_t (i := 7) (d := some 28) (v := ?_) rfl rfl (by kernel_rfl) (by kernel_rfl) (by kernel_rfl) (fun _ _ _ h => h) (by rfl) ?_ (by assumption) ?_
      rotate_left
      · intro w' hSw
        (try dsimp only at hSw)
        go_split_ands
        go_simp
        try with_reducible rfl
      try simp only [Act.put, List.setIfInBounds_toArray, List.set_cons_zero, List.set_cons_succ]
      refine hw_t (i := 8) (d := some 29) (v := ?_) rfl rfl (by kernel_rfl) (by kernel_rfl) (by kernel_rfl) (fun _ _ _ h => h) (by rfl) ?_ (by assumption) ?_
      rotate_left
      · intro w' hSw
        (try dsimp only at hSw)
        go_split_ands
        go_simp
        try with_reducible rfl
      try simp only [Act.put, List.setIfInBounds_toArray, List.set_cons_zero, List.set_cons_succ]
      refine hw_t (i := 10) (d := some 31) (v := ?_) rfl rfl (by kernel_rfl) (by kernel_rfl) (by kernel_rfl) (fun _ _ _ h => h) (by rfl) ?_ (by assumption) ?_
      rotate_left
      · intro w' hSw
        (try dsimp only at hSw)
        go_split_ands
        go_simp
        try with_reducible rfl
      try simp only [Act.put, List.setIfInBounds_toArray, List.set_cons_zero, List.set_cons_succ]
      refine hw_t (i := 11) (d := some 32) (v := ?_) rfl rfl (by kernel_rfl) (by kernel_rfl) (by kernel_rfl) (fun _ _ _ h => h) (by rfl) ?_ (by assumption) ?_
      rotate_left
      · intro w' hSw
        (try dsimp only at hSw)
        go_split_ands
        go_simp
        try with_reducible rfl
      try simp only [Act.put, List.setIfInBounds_toArray, List.set_cons_zero, List.set_cons_succ]
      refine hw_t (i := 12) (d := some 33) (v := ?_) rfl rfl (by kernel_rfl) (by kernel_rfl) (by kernel_rfl) (fun _ _ _ h => h) (by rfl) ?_ (by assumption) ?_
      rotate_left
      · intro w' hSw
        (try dsimp only at hSw)
        go_split_ands
        go_simp
        try with_reducible rfl
      try simp only [Act.put, List.setIfInBounds_toArray, List.set_cons_zero, List.set_cons_succ]
      refine hw_t (i := 13) (d := some 34) (v := ?_) rfl rfl (by kernel_rfl) (by kernel_rfl) (by kernel_rfl) (fun _ _ _ h => h) (by rfl) ?_ (by assumption) ?_
      rotate_left
      · intro w' hSw
        (try dsimp only at hSw)
        go_split_ands
        go_simp
        try with_reducible rfl
      try simp only [Act.put, List.setIfInBounds_toArray, List.set_cons_zero, List.set_cons_succ]
      refine hw_t (i := 14) (d := some 35) (v := ?_) rfl rfl (by kernel_rfl) (by kernel_rfl) (by kernel_rfl) (fun _ _ _ h => h) (by rfl) ?_ (by assumption) ?_
      rotate_left
      · intro w' hSw
        (try dsimp only at hSw)
        go_split_ands
        go_simp
        try with_reducible rfl
      try simp only [Act.put, List.setIfInBounds_toArray, List.set_cons_zero, List.set_cons_succ]
      refine hw_t (i := 15) (d := some 36) (v := ?_) rfl rfl (by kernel_rfl) (by kernel_rfl) (by kernel_rfl) (fun _ _ _ h => h) (by rfl) ?_ (by assumption) ?_
      rotate_left
      · intro w' hSw
        (try dsimp only at hSw)
        go_split_ands
        go_simp
        try with_reducible rfl
      try simp only [Act.put, List.setIfInBounds_toArray, List.set_cons_zero, List.set_cons_succ]
      have RA := Lib.hid (R3.out)
      have RB := Lib.hid (R4.out)
      generalize W2.drew = Y0 at hHeld hB0 ⊢
      refine wpAnyH_ready (rs := [2, 6]) (by kernel_rfl) (by simp) ?_
      refine AllReadyH.cons rfl (fun K hK => ?_) (AllReadyH.cons rfl (fun K hK => ?_) AllReadyH.nil)
      · skip
        go_simp
        have hB1 := bel_alloc (o := .cells #[] 5) hB0
        refine hK.out _ _ (HS.out _ hB1) (fun hHeld => ?_)
        clear hK K
        try simp only [Act.put, List.setIfInBounds_toArray, List.set_cons_zero, List.set_cons_succ]
        have R1 := made_row Y0 W2.heap.size hB0.size
        generalize (Y0.alloc (.cells #[] 5)) = Y1 at hHeld hB1 R1 ⊢
        generalize (Value.slice (some ⟨Y0.heap.size, 0, none⟩) 0 0) = va0 at R1 ⊢
        refine wpAnyH_ready (rs := [5, 6]) (by kernel_rfl) (by simp) ?_
        refine AllReadyH.cons rfl (fun K hK => ?_) (AllReadyH.cons rfl (fun K hK => ?_) AllReadyH.nil)
        · skip
          refine step_append_any _ (by rfl) (.tmp 23) (.tmp 25) 26 (by rfl) W2.heap.size 5 i2 (.int .u8 0) 1 1 Try.underlying26 hi2 hz2 hs2 hb2 rfl (by omega) va0 0 [] (by rfl) R1 W2.heap.size Ax xl.length cx (bvs xl) (by rfl) (rd_bel RA.out hB1) (bvs_one xl) MA.out.1 MA.out.2 hB1.size ?_
          intro va1 Y2 hown hgr hat
          simp only [Nat.zero_add, List.nil_append] at hown
          have hB2 := bel_app hB1 R1 (Nat.le_refl _) hgr
          have R2 := hown
          clear hown hgr hat
          refine hK.out _ _ (HS.out _ hB2) (fun hHeld => ?_)
          clear hK K
          try simp only [Act.put, List.setIfInBounds_toArray, List.set_cons_zero, List.set_cons_succ]
          refine wpAnyH_ready (rs := [6]) (by kernel_rfl) (by simp) ?_
          refine AllReadyH.cons rfl (fun K hK => ?_) AllReadyH.nil
          go_simp
          have hB3 := bel_alloc (o := .cells #[] 5) hB2
          refine hK.out _ _ (HS.out _ hB3) (fun hHeld => ?_)
          clear hK K
          try simp only [Act.put, List.setIfInBounds_toArray, List.set_cons_zero, List.set_cons_succ]
          have T3 := TwoR.new_b R2 hB2.size
          generalize (Y2.alloc (.cells #[] 5)) = Y3 at hHeld hB3 T3 ⊢
          generalize (Value.slice (some ⟨Y2.heap.size, 0, none⟩) 0 0) = vb0 at T3 ⊢
          refine wpAnyH_ready (rs := [9]) (by kernel_rfl) (by simp) ?_
          refine AllReadyH.cons rfl (fun K hK => ?_) AllReadyH.nil
          refine step_append_any _ (by rfl) (.tmp 27) (.tmp 29) 26 (by rfl) W2.heap.size 5 i2 (.int .u8 0) 1 1 Try.underlying26 hi2 hz2 hs2 hb2 rfl (by omega) vb0 0 [] (by rfl) T3.b W2.heap.size Ay xv.length cy (bvs xv) (by rfl) (rd_bel RB.out hB3) (bvs_one xv) MB.out.1 MB.out.2 hB3.size ?_
          intro vb1 Y4 hown hgr hat
          simp only [Nat.zero_add, List.nil_append] at hown
          have hB4 := bel_app hB3 T3.b (Nat.le_refl _) hgr
          have T4 := T3.app_b hown hgr hat
          clear hown hgr hat
          refine hK.out _ _ (HS.out _ hB4) (fun hHeld => ?_)
          clear hK K
          try simp only [Act.put, List.setIfInBounds_toArray, List.set_cons_zero, List.set_cons_succ]
          obtain ⟨A1, c1, rfl, qa1, qa2⟩ := own_form T4.a
          obtain ⟨A2, c2, rfl, qb1, qb2⟩ := own_form T4.b
          refine hw_t (i := 16) (d := some 37) (v := ?_) rfl rfl (by kernel_rfl) (by kernel_rfl) (by kernel_rfl) (fun _ _ _ h => h) (by rfl) ?_ (by assumption) ?_
          rotate_left
          · intro w' hSw
            (try dsimp only at hSw)
            go_split_ands
            go_simp
            try with_reducible rfl
          try simp only [Act.put, List.setIfInBounds_toArray, List.set_cons_zero, List.set_cons_succ]
          refine wpAnyH_ready (rs := [17]) (by kernel_rfl) (by simp) ?_
          refine AllReadyH.cons rfl (fun K hK => ?_) AllReadyH.nil
          go_simp
          have hB5 := bel_alloc (o := .cells #[.slice A1 xl.length c1, .slice A2 xv.length c2, (.int .i64 xver), (.int .i64 xep), (.bool xer)] 49) hB4
          refine hK.out _ _ (HS.out _ hB5) (fun hHeld => ?_)
          clear hK K
          try simp only [Act.put, List.setIfInBounds_toArray, List.set_cons_zero, List.set_cons_succ]
          have RE := rd_new5 Y4 (.slice A1 xl.length c1) (.slice A2 xv.length c2) (.int .i64 xver) (.int .i64 xep) (.bool xer) 49
          have OU := (own_b hB4 OUT2.out).alloc (.cells #[.slice A1 xl.length c1, .slice A2 xv.length c2, (.int .i64 xver), (.int .i64 xep), (.bool xer)] 49)
          refine wpAnyH_ready (rs := [18]) (by kernel_rfl) (by simp) ?_
          refine AllReadyH.cons rfl (fun K hK => ?_) AllReadyH.nil
          refine step_append_any _ (by rfl) (.tmp 22) (.tmp 38) 23 (by rfl) (w.heap.size + 3) 49 i5 (.agg zbe) 5 72 Try.underlying23 hi5 hz5 hs5 hb5 rfl (by omega) (.slice A0 es.length c0) es.length xs (by rfl) OU (Y4.heap.size + 1) (some ⟨Y4.heap.size, 0, none⟩) 1 1 [.slice A1 xl.length c1, .slice A2 xv.length c2, (.int .i64 xver), (.int .i64 xep), (.bool xer)] (by rfl) RE (ent_one _ _ _ _ _ _ _ _ _) MO.out.1 MO.out.2 (Nat.le_trans BLE.out (Nat.le_trans hB4.size (by simp))) ?_
          intro v9 X9 hown9 hgr9 hat9
          obtain ⟨A9, c9, rfl, q5, q6⟩ := own_form hown9
          have b9x := blk_app hgr9 ((BX.out.below hB4 BX.out.lt).alloc _) OUTR.out (Nat.le_refl _)
          have b9o := blk_far hgr9 ((BO.out.below hB4 BO.out.lt).alloc _) OU (by decide)
          refine hK.out _ _ ⟨b9x.cell 0, b9x.cell 1, b9x.cell 2, b9x.cell 3, b9x.cell 4, b9o.cell 0⟩ (fun hHeld => ?_)
          clear hK K
          try simp only [Act.put, List.setIfInBounds_toArray, List.set_cons_zero, List.set_cons_succ]
          refine hw_t (i := 19) (d := some 40) (v := ?_) rfl rfl (by kernel_rfl) (by kernel_rfl) (by kernel_rfl) (fun _ _ _ h => h) (by rfl) ?_ (by assumption) ?_
          rotate_left
          · intro w' hSw
            (try dsimp only at hSw)
            go_split_ands
            go_simp
            try with_reducible rfl
          try simp only [Act.put, List.setIfInBounds_toArray, List.set_cons_zero, List.set_cons_succ]
          refine wpAnyH_done (by kernel_rfl) ?_ _
          refine last_step rfl (fun K hK => ?_)
          have cl9 := b9o.cell
          have fz9 := b9o.frozen
          go_simp
          refine hK.out _ _ ?_
          clear hK K
          try simp only [Act.put, List.setIfInBounds_toArray, List.set_cons_zero, List.set_cons_succ]
          have F := app_close (x := ⟨xl, xv, xver, xep, xer⟩) (n0 := w.heap.size) (by omega) (by omega) BLR.out JB.out JO.out (keepB hB4 HB2.out) ⟨own_less T4.a HB2.out.size, own_less T4.b HB2.out.size, T4.ne⟩ BOR.out hown9 hgr9
          obtain ⟨F1, F2, F3, F4, F5⟩ := F
          rw [← EX.out] at F1 F3
          have G0 := F4 _ _ (by omega) B0.out
          have G1 := F4 _ _ (by omega) B1.out
          go_wp2
          go_roundw
          case rel => exact ⟨j + 1, _, _, by omega, by go_num, F1, F2, G0, G1, F3⟩
          case measure => simp [intOf]; omega
        · skip
          go_simp
          have hB2 := bel_alloc (o := .cells #[] 5) hB1
          refine hK.out _ _ (HS.out _ hB2) (fun hHeld => ?_)
          clear hK K
          try simp only [Act.put, List.setIfInBounds_toArray, List.set_cons_zero, List.set_cons_succ]
          have T2 := TwoR.new_b R1 hB1.size
          generalize (Y1.alloc (.cells #[] 5)) = Y2 at hHeld hB2 T2 ⊢
          generalize (Value.slice (some ⟨Y1.heap.size, 0, none⟩) 0 0) = vb0 at T2 ⊢
          refine wpAnyH_ready (rs := [5]) (by kernel_rfl) (by simp) ?_
          refine AllReadyH.cons rfl (fun K hK => ?_) AllReadyH.nil
          refine step_append_any _ (by rfl) (.tmp 23) (.tmp 25) 26 (by rfl) W2.heap.size 5 i2 (.int .u8 0) 1 1 Try.underlying26 hi2 hz2 hs2 hb2 rfl (by omega) va0 0 [] (by rfl) T2.a W2.heap.size Ax xl.length cx (bvs xl) (by rfl) (rd_bel RA.out hB2) (bvs_one xl) MA.out.1 MA.out.2 hB2.size ?_
          intro va1 Y3 hown hgr hat
          simp only [Nat.zero_add, List.nil_append] at hown
          have hB3 := bel_app hB2 T2.a (Nat.le_refl _) hgr
          have T3 := T2.app_a hown hgr hat
          clear hown hgr hat
          refine hK.out _ _ (HS.out _ hB3) (fun hHeld => ?_)
          clear hK K
          try simp only [Act.put, List.setIfInBounds_toArray, List.set_cons_zero, List.set_cons_succ]
          refine wpAnyH_ready (rs := [9]) (by kernel_rfl) (by simp) ?_
          refine AllReadyH.cons rfl (fun K hK => ?_) AllReadyH.nil
          refine step_append_any _ (by rfl) (.tmp 27) (.tmp 29) 26 (by rfl) W2.heap.size 5 i2 (.int .u8 0) 1 1 Try.underlying26 hi2 hz2 hs2 hb2 rfl (by omega) vb0 0 [] (by rfl) T3.b W2.heap.size Ay xv.length cy (bvs xv) (by rfl) (rd_bel RB.out hB3) (bvs_one xv) MB.out.1 MB.out.2 hB3.size ?_
          intro vb1 Y4 hown hgr hat
          simp only [Nat.zero_add, List.nil_append] at hown
          have hB4 := bel_app hB3 T3.b (Nat.le_refl _) hgr
          have T4 := T3.app_b hown hgr hat
          clear hown hgr hat
          refine hK.out _ _ (HS.out _ hB4) (fun hHeld => ?_)
          clear hK K
          try simp only [Act.put, List.setIfInBounds_toArray, List.set_cons_zero, List.set_cons_succ]
          obtain ⟨A1, c1, rfl, qa1, qa2⟩ := own_form T4.a
          obtain ⟨A2, c2, rfl, qb1, qb2⟩ := own_form T4.b
          refine hw_t (i := 16) (d := some 37) (v := ?_) rfl rfl (by kernel_rfl) (by kernel_rfl) (by kernel_rfl) (fun _ _ _ h => h) (by rfl) ?_ (by assumption) ?_
          rotate_left
          · intro w' hSw
            (try dsimp only at hSw)
            go_split_ands
            go_simp
            try with_reducible rfl
          try simp only [Act.put, List.setIfInBounds_toArray, List.set_cons_zero, List.set_cons_succ]
          refine wpAnyH_ready (rs := [17]) (by kernel_rfl) (by simp) ?_
          refine AllReadyH.cons rfl (fun K hK => ?_) AllReadyH.nil
          go_simp
          have hB5 := bel_alloc (o := .cells #[.slice A1 xl.length c1, .slice A2 xv.length c2, (.int .i64 xver), (.int .i64 xep), (.bool xer)] 49) hB4
          refine hK.out _ _ (HS.out _ hB5) (fun hHeld => ?_)
          clear hK K
          try simp only [Act.put, List.setIfInBounds_toArray, List.set_cons_zero, List.set_cons_succ]
          have RE := rd_new5 Y4 (.slice A1 xl.length c1) (.slice A2 xv.length c2) (.int .i64 xver) (.int .i64 xep) (.bool xer) 49
          have OU := (own_b hB4 OUT2.out).alloc (.cells #[.slice A1 xl.length c1, .slice A2 xv.length c2, (.int .i64 xver), (.int .i64 xep), (.bool xer)] 49)
          refine wpAnyH_ready (rs := [18]) (by kernel_rfl) (by simp) ?_
          refine AllReadyH.cons rfl (fun K hK => ?_) AllReadyH.nil
          refine step_append_any _ (by rfl) (.tmp 22) (.tmp 38) 23 (by rfl) (w.heap.size + 3) 49 i5 (.agg zbe) 5 72 Try.underlying23 hi5 hz5 hs5 hb5 rfl (by omega) (.slice A0 es.length c0) es.length xs (by rfl) OU (Y4.heap.size + 1) (some ⟨Y4.heap.size, 0, none⟩) 1 1 [.slice A1 xl.length c1, .slice A2 xv.length c2, (.int .i64 xver), (.int .i64 xep), (.bool xer)] (by rfl) RE (ent_one _ _ _ _ _ _ _ _ _) MO.out.1 MO.out.2 (Nat.le_trans BLE.out (Nat.le_trans hB4.size (by simp))) ?_
          intro v9 X9 hown9 hgr9 hat9
          obtain ⟨A9, c9, rfl, q5, q6⟩ := own_form hown9
          have b9x := blk_app hgr9 ((BX.out.below hB4 BX.out.lt).alloc _) OUTR.out (Nat.le_refl _)
          have b9o := blk_far hgr9 ((BO.out.below hB4 BO.out.lt).alloc _) OU (by decide)
          refine hK.out _ _ ⟨b9x.cell 0, b9x.cell 1, b9x.cell 2, b9x.cell 3, b9x.cell 4, b9o.cell 0⟩ (fun hHeld => ?_)
          clear hK K
          try simp only [Act.put, List.setIfInBounds_toArray, List.set_cons_zero, List.set_cons_succ]
          refine hw_t (i := 19) (d := some 40) (v := ?_) rfl rfl (by kernel_rfl) (by kernel_rfl) (by kernel_rfl) (fun _ _ _ h => h) (by rfl) ?_ (by assumption) ?_
          rotate_left
          · intro w' hSw
            (try dsimp only at hSw)
            go_split_ands
            go_simp
            try with_reducible rfl
          try simp only [Act.put, List.setIfInBounds_toArray, List.set_cons_zero, List.set_cons_succ]
          refine wpAnyH_done (by kernel_rfl) ?_ _
          refine last_step rfl (fun K hK => ?_)
          have cl9 := b9o.cell
          have fz9 := b9o.frozen
          go_simp
          refine hK.out _ _ ?_
          clear hK K
          try simp only [Act.put, List.setIfInBounds_toArray, List.set_cons_zero, List.set_cons_succ]
          have F := app_close (x := ⟨xl, xv, xver, xep, xer⟩) (n0 := w.heap.size) (by omega) (by omega) BLR.out JB.out JO.out (keepB hB4 HB2.out) ⟨own_less T4.a HB2.out.size, own_less T4.b HB2.out.size, T4.ne⟩ BOR.out hown9 hgr9
          obtain ⟨F1, F2, F3, F4, F5⟩ := F
          rw [← EX.out] at F1 F3
          have G0 := F4 _ _ (by omega) B0.out
          have G1 := F4 _ _ (by omega) B1.out
          go_wp2
          go_roundw
          case rel => exact ⟨j + 1, _, _, by omega, by go_num, F1, F2, G0, G1, F3⟩
          case measure => simp [intOf]; omega
      · skip
        go_simp
        have hB1 := bel_alloc (o := .cells #[] 5) hB0
        refine hK.out _ _ (HS.out _ hB1) (fun hHeld => ?_)
        clear hK K
        try simp only [Act.put, List.setIfInBounds_toArray, List.set_cons_zero, List.set_cons_succ]
        have R1 := made_row Y0 W2.heap.size hB0.size
        generalize (Y0.alloc (.cells #[] 5)) = Y1 at hHeld hB1 R1 ⊢
        generalize (Value.slice (some ⟨Y0.heap.size, 0, none⟩) 0 0) = vb0 at R1 ⊢
        refine wpAnyH_ready (rs := [2]) (by kernel_rfl) (by simp) ?_
        refine AllReadyH.cons rfl (fun K hK => ?_) AllReadyH.nil
        go_simp
        have hB2 := bel_alloc (o := .cells #[] 5) hB1
        refine hK.out _ _ (HS.out _ hB2) (fun hHeld => ?_)
        clear hK K
        try simp only [Act.put, List.setIfInBounds_toArray, List.set_cons_zero, List.set_cons_succ]
        have T2 := TwoR.new_a R1 hB1.size
        generalize (Y1.alloc (.cells #[] 5)) = Y2 at hHeld hB2 T2 ⊢
        generalize (Value.slice (some ⟨Y1.heap.size, 0, none⟩) 0 0) = va0 at T2 ⊢
        refine wpAnyH_ready (rs := [5]) (by kernel_rfl) (by simp) ?_
        refine AllReadyH.cons rfl (fun K hK => ?_) AllReadyH.nil
        refine step_append_any _ (by rfl) (.tmp 23) (.tmp 25) 26 (by rfl) W2.heap.size 5 i2 (.int .u8 0) 1 1 Try.underlying26 hi2 hz2 hs2 hb2 rfl (by omega) va0 0 [] (by rfl) T2.a W2.heap.size Ax xl.length cx (bvs xl) (by rfl) (rd_bel RA.out hB2) (bvs_one xl) MA.out.1 MA.out.2 hB2.size ?_
        intro va1 Y3 hown hgr hat
        simp only [Nat.zero_add, List.nil_append] at hown
        have hB3 := bel_app hB2 T2.a (Nat.le_refl _) hgr
        have T3 := T2.app_a hown hgr hat
        clear hown hgr hat
        refine hK.out _ _ (HS.out _ hB3) (fun hHeld => ?_)
        clear hK K
        try simp only [Act.put, List.setIfInBounds_toArray, List.set_cons_zero, List.set_cons_succ]
        refine wpAnyH_ready (rs := [9]) (by kernel_rfl) (by simp) ?_
        refine AllReadyH.cons rfl (fun K hK => ?_) AllReadyH.nil
        refine step_append_any _ (by rfl) (.tmp 27) (.tmp 29) 26 (by rfl) W2.heap.size 5 i2 (.int .u8 0) 1 1 Try.underlying26 hi2 hz2 hs2 hb2 rfl (by omega) vb0 0 [] (by rfl) T3.b W2.heap.size Ay xv.length cy (bvs xv) (by rfl) (rd_bel RB.out hB3) (bvs_one xv) MB.out.1 MB.out.2 hB3.size ?_
        intro vb1 Y4 hown hgr hat
        simp only [Nat.zero_add, List.nil_append] at hown
        have hB4 := bel_app hB3 T3.b (Nat.le_refl _) hgr
        have T4 := T3.app_b hown hgr hat
        clear hown hgr hat
        refine hK.out _ _ (HS.out _ hB4) (fun hHeld => ?_)
        clear hK K
        try simp only [Act.put, List.setIfInBounds_toArray, List.set_cons_zero, List.set_cons_succ]
        obtain ⟨A1, c1, rfl, qa1, qa2⟩ := own_form T4.a
        obtain ⟨A2, c2, rfl, qb1, qb2⟩ := own_form T4.b
        refine hw_t (i := 16) (d := some 37) (v := ?_) rfl rfl (by kernel_rfl) (by kernel_rfl) (by kernel_rfl) (fun _ _ _ h => h) (by rfl) ?_ (by assumption) ?_
        rotate_left
        · intro w' hSw
          (try dsimp only at hSw)
          go_split_ands
          go_simp
          try with_reducible rfl
        try simp only [Act.put, List.setIfInBounds_toArray, List.set_cons_zero, List.set_cons_succ]
        refine wpAnyH_ready (rs := [17]) (by kernel_rfl) (by simp) ?_
        refine AllReadyH.cons rfl (fun K hK => ?_) AllReadyH.nil
        go_simp
        have hB5 := bel_alloc (o := .cells #[.slice A1 xl.length c1, .slice A2 xv.length c2, (.int .i64 xver), (.int .i64 xep), (.bool xer)] 49) hB4
        refine hK.out _ _ (HS.out _ hB5) (fun hHeld => ?_)
        clear hK K
        try simp only [Act.put, List.setIfInBounds_toArray, List.set_cons_zero, List.set_cons_succ]
        have RE := rd_new5 Y4 (.slice A1 xl.length c1) (.slice A2 xv.length c2) (.int .i64 xver) (.int .i64 xep) (.bool xer) 49
        have OU := (own_b hB4 OUT2.out).alloc (.cells #[.slice A1 xl.length c1, .slice A2 xv.length c2, (.int .i64 xver), (.int .i64 xep), (.bool xer)] 49)
        refine wpAnyH_ready (rs := [18]) (by kernel_rfl) (by simp) ?_
        refine AllReadyH.cons rfl (fun K hK => ?_) AllReadyH.nil
        refine step_append_any _ (by rfl) (.tmp 22) (.tmp 38) 23 (by rfl) (w.heap.size + 3) 49 i5 (.agg zbe) 5 72 Try.underlying23 hi5 hz5 hs5 hb5 rfl (by omega) (.slice A0 es.length c0) es.length xs (by rfl) OU (Y4.heap.size + 1) (some ⟨Y4.heap.size, 0, none⟩) 1 1 [.slice A1 xl.length c1, .slice A2 xv.length c2, (.int .i64 xver), (.int .i64 xep), (.bool xer)] (by rfl) RE (ent_one _ _ _ _ _ _ _ _ _) MO.out.1 MO.out.2 (Nat.le_trans BLE.out (Nat.le_trans hB4.size (by simp))) ?_
        intro v9 X9 hown9 hgr9 hat9
        obtain ⟨A9, c9, rfl, q5, q6⟩ := own_form hown9
        have b9x := blk_app hgr9 ((BX.out.below hB4 BX.out.lt).alloc _) OUTR.out (Nat.le_refl _)
        have b9o := blk_far hgr9 ((BO.out.below hB4 BO.out.lt).alloc _) OU (by decide)
        refine hK.out _ _ ⟨b9x.cell 0, b9x.cell 1, b9x.cell 2, b9x.cell 3, b9x.cell 4, b9o.cell 0⟩ (fun hHeld => ?_)
        clear hK K
        try simp only [Act.put, List.setIfInBounds_toArray, List.set_cons_zero, List.set_cons_succ]
        refine hw_t (i := 19) (d := some 40) (v := ?_) rfl rfl (by kernel_rfl) (by kernel_rfl) (by kernel_rfl) (fun _ _ _ h => h) (by rfl) ?_ (by assumption) ?_
        rotate_left
        · intro w' hSw
          (try dsimp only at hSw)
          go_split_ands
          go_simp
          try with_reducible rfl
        try simp only [Act.put, List.setIfInBounds_toArray, List.set_cons_zero, List.set_cons_succ]
        refine wpAnyH_done (by kernel_rfl) ?_ _
        refine last_step rfl (fun K hK => ?_)
        have cl9 := b9o.cell
        have fz9 := b9o.frozen
        go_simp
        refine hK.out _ _ ?_
        clear hK K
        try simp only [Act.put, List.setIfInBounds_toArray, List.set_cons_zero, List.set_cons_succ]
        have F := app_close (x := ⟨xl, xv, xver, xep, xer⟩) (n0 := w.heap.size) (by omega) (by omega) BLR.out JB.out JO.out (keepB hB4 HB2.out) ⟨own_less T4.a HB2.out.size, own_less T4.b HB2.out.size, T4.ne⟩ BOR.out hown9 hgr9
        obtain ⟨F1, F2, F3, F4, F5⟩ := F
        rw [← EX.out] at F1 F3
        have G0 := F4 _ _ (by omega) B0.out
        have G1 := F4 _ _ (by omega) B1.out
        go_wp2
        go_roundw
        case rel => exact ⟨j + 1, _, _, by omega, by go_num, F1, F2, G0, G1, F3⟩
        case measure => simp [intOf]; omega
    · obtain rfl : j = ents.length := by omega
      rw [List.take_of_length_le (Nat.le_refl _)] at hes
      subst hes
      have cc1 := r1.cell
      have ff1 := r1.frozen
      have cc2 := r2.cell
      clear hO r0 r1 r2 hB
      go_wp2
      refine bodyPost_ret (v := bkv A0 es.length c0 eps) (by simp [results, Try.results37, go_sem, cc1]) rfl ?_
      have hgr := (grown_setCell wr ⟨w.heap.size + 1, 0, none⟩ (.slice A0 es.length c0)).trans (grown_setCell _ ⟨w.heap.size + 1, 1, none⟩ (.int .i64 eps))
      exact ⟨_, _, xs, rfl, (JO.out.grownB hgr B1.out (by decide) (by decide)).less (by omega), JB.out.grown hgr JB.out.size (fun k e => by injection e with e; dsimp only at e; omega)⟩
end Go.Proofs.Ytkiijbbcfbkecaa
