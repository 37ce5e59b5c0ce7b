/- The document's may. -/
import Derived.Test.YtkiijbbcfbkecaaN1
import Derived.Test.YtkiijbbcfbkecaaP1
import Derived.Deep.RegionWith
import Derived.Deep.DeepCutAuto
import Derived.IntWalk
namespace Go.Proofs.Ytkiijbbcfbkecaa
open Go.RowKit
set_option linter.unusedVariables false
set_option linter.unusedSimpArgs false

/-- The head of what may asks: true where it fails. -/
def headB (xl xv : List UInt8) (xver xep eps : Int) (cn : Nat) : Bool := !itemB xl xv xver || (xver != 1 + (cn : Int)) || decide (xep < 0) || decide (eps < xep)
theorem keepMay {W w' : World} {b0 b1 : Nat} {A : Option Addr} {cs : Array Value} {x y : Value} (h0 : Blk W b0 25 #[x, y]) (h1 : Blk W b1 49 cs) (h : Below W.heap.size W w') :
    (∀ j, w'.cell? ⟨b1, j, none⟩ = cs[j]?) ∧ w'.cell? ⟨b0, 0, none⟩ = some x ∧ w'.cell? ⟨b0, 1, none⟩ = some y ∧ Below W.heap.size W w' :=
  ⟨(h1.below h h1.lt).cell, (h0.below h h0.lt).cell 0, (h0.below h h0.lt).cell 1, h⟩
theorem prev_of' {l : List Ent} {i : Nat} {y : Ent} (h : l[i - 1]? = some y) : prevEp l i = y.ep := by unfold prevEp; rw [h]
theorem may_of {ents : List Ent} {eps : Int} {i : Nat} {xl xv : List UInt8} {xver xep : Int} {xer : Bool} (hh : headB xl xv xver xep eps (cntL (ents.take i) xl) = false) :
    mayB ⟨ents, eps⟩ i ⟨xl, xv, xver, xep, xer⟩ = (!(xer && (decide (0 < xv.length) || decide (xep = 0))) && decide (cntE ents xep ≤ mostN xep) && (decide (i = 0) || decide (xep = 0) || (decide (prevEp ents i ≠ 0) && decide (prevEp ents i ≤ xep)))) := by
  unfold headB at hh
  simp only [Bool.or_eq_false_iff, Bool.not_eq_false', bne_eq_false_iff_eq, decide_eq_false_iff_not] at hh
  obtain ⟨⟨⟨a, b⟩, c⟩, d⟩ := hh
  unfold mayB
  dsimp only
  rw [a, decide_eq_true b, decide_eq_true (show 0 ≤ xep by omega), decide_eq_true (show xep ≤ eps by omega)]
  simp only [Bool.true_and]
theorem may_head {ents : List Ent} {eps : Int} {i : Nat} {xl xv : List UInt8} {xver xep : Int} {xer : Bool} (hh : headB xl xv xver xep eps (cntL (ents.take i) xl) = true) : mayB ⟨ents, eps⟩ i ⟨xl, xv, xver, xep, xer⟩ = false := by
  unfold headB at hh
  rcases Bool.eq_false_or_eq_true (mayB ⟨ents, eps⟩ i ⟨xl, xv, xver, xep, xer⟩) with h | h
  · obtain ⟨⟨a, b, c, _⟩, _, d, _⟩ := mayB_iff.1 h
    dsimp only at a b c d
    simp only [Bool.or_eq_true, Bool.not_eq_true', bne_iff_ne, decide_eq_true_eq, a] at hh
    rcases hh with ((hh | hh) | hh) | hh
    · cases hh
    · omega
    · omega
    · omega
  · exact h
theorem ret_mb {b c : Bool} (h : b = c) : Ending.returned (.bool b) = .returned (.bool c) := by rw [h]

set_option maxRecDepth 100000 in
set_option maxHeartbeats 8000000 in
theorem may_any (A : Option Addr) (c : Nat) (k : Bk) (i : Nat) (x : Ent) (w : World) (hA : Ents w w.heap.size A k.ents.length k.ents) (h1 : k.ents.length ≤ c) (h2 : c ≤ maxLen) (hn : k.ents.length ≤ 1000) (hx : k.ents[i]? = some x) :
    Calls Try.prog 30 #[bkv A k.ents.length c k.eps, .int .i64 (i : Int)] w fun e w' => e = .returned (.bool (mayB k i x)) ∧ Below w.heap.size w w' := by
  obtain ⟨r, hr⟩ : ∃ r, r = mayB k i x := ⟨_, rfl⟩
  rw [← hr]
  have HR := Lib.hid hr
  clear hr
  have d0 := (BBox.arg hA h1 h2).alloc (.cells #[.slice none 0 0, .slice none 0 0, .int .i64 0, .int .i64 0, .bool false] 49)
  have H1 := Lib.hid h1
  have H2 := Lib.hid h2
  have hA2 := ents_after hA (below_one w (.cells #[.slice A k.ents.length c, .int .i64 k.eps] 25))
  obtain ⟨ents, eps⟩ := k
  dsimp only at d0 hn hx H1 HR hA2 ⊢
  have hi := (List.getElem?_eq_some_iff.1 hx).1
  obtain ⟨q0, q1⟩ := (BBox.arg (k := ⟨ents, eps⟩) hA h1 h2).cells
  obtain ⟨xb, xo, x', Ax, cx, Ay, cy, rfl, hb, hx', c1, c2, c3, c4, c5, p1, p2, p3, s1, s2, s3⟩ := hA2.at_ hi
  rw [hx] at hx'
  injection hx' with hx'
  subst hx'
  have HX := Lib.hid hx
  obtain ⟨xl, xv, xver, xep, xer⟩ := x
  dsimp only at q0 q1 c1 c2 c3 c4 c5 p1 p2 p3 s1 s2 s3
  have hk0 : (0 : Int) ≤ (i : Int) := by omega
  have hk1 : (i : Int) < (ents.length : Int) := by omega
  obtain ⟨cn, hcn⟩ : ∃ cn, cn = cntL (ents.take i) xl := ⟨_, rfl⟩
  have hcn1 : cn ≤ 1000 := by rw [hcn]; have := cntL_le (ents.take i) xl; have := List.length_take_le i ents; omega
  have HCN := Lib.hid hcn
  have PL := Lib.hid p3
  have HA2 := Lib.hid hA2
  clear hx d0 hA p3 s3 hcn hA2 h1 h2
  go_enter Try.func30, Try.ntmps30
  go_wp2
  have b0 : Blk ((w.alloc (.cells #[.slice (some ⟨xb, xo, none⟩) ents.length c, .int .i64 eps] 25)).alloc (.cells #[.slice Ax xl.length cx, .slice Ay xv.length cy, .int .i64 xver, .int .i64 xep, .bool xer] 49)) w.heap.size 25 #[.slice (some ⟨xb, xo, none⟩) ents.length c, .int .i64 eps] := (Blk.new w _ _).alloc _
  have bx : Blk ((w.alloc (.cells #[.slice (some ⟨xb, xo, none⟩) ents.length c, .int .i64 eps] 25)).alloc (.cells #[.slice Ax xl.length cx, .slice Ay xv.length cy, .int .i64 xver, .int .i64 xep, .bool xer] 49)) (w.heap.size + 1) 49 #[.slice Ax xl.length cx, .slice Ay xv.length cy, .int .i64 xver, .int .i64 xep, .bool xer] := by
    have := Blk.new (w.alloc (.cells #[.slice (some ⟨xb, xo, none⟩) ents.length c, .int .i64 eps] 25)) 49 #[.slice Ax xl.length cx, .slice Ay xv.length cy, .int .i64 xver, .int .i64 xep, .bool xer]
    simpa using this
  have hB : Below w.heap.size w ((w.alloc (.cells #[.slice (some ⟨xb, xo, none⟩) ents.length c, .int .i64 eps] 25)).alloc (.cells #[.slice Ax xl.length cx, .slice Ay xv.length cy, .int .i64 xver, .int .i64 xep, .bool xer] 49)) := bel_alloc (below_one w _)
  have hE := ents_after HA2.out (below_one _ (.cells #[.slice Ax xl.length cx, .slice Ay xv.length cy, .int .i64 xver, .int .i64 xep, .bool xer] 49))
  have hP := rd_after PL.out (below_one _ (.cells #[.slice Ax xl.length cx, .slice Ay xv.length cy, .int .i64 xver, .int .i64 xep, .bool xer] 49))
  generalize ((w.alloc (.cells #[.slice (some ⟨xb, xo, none⟩) ents.length c, .int .i64 eps] 25)).alloc (.cells #[.slice Ax xl.length cx, .slice Ay xv.length cy, .int .i64 xver, .int .i64 xep, .bool xer] 49)) = W at b0 bx hB hE hP ⊢
  have HB := Lib.hid hB
  have B0 := Lib.hid b0
  have BX := Lib.hid bx
  have HE := Lib.hid hE
  have HP := Lib.hid hP
  clear q0 q1 c1 c2 c3 c4 c5 b0 bx hE hP HA2 PL hB
  obtain ⟨hd, hhd⟩ : ∃ hd, hd = headB xl xv xver xep eps cn := ⟨_, rfl⟩
  have HD := Lib.hid hhd
  clear hhd
  go_cut [44] (fun s44 wx => s44 = .bool hd ∧ Below W.heap.size W wx)
  case first =>
    have hK := Lib.hid (fun (w' : World) (h : Below W.heap.size W w') => keepMay (A := none) B0.out BX.out h)
    have hs1 : IntKind.i64.wrap (1 + (cn : Int)) = 1 + (cn : Int) := IntWalk.i64_in _ (by omega)
    cases hit : itemB xl xv xver
    · have HI := Lib.hid hit
      have HDV : Hid (Value.bool true = .bool hd) := Lib.hid (by rw [HD.out]; simp [headB, hit])
      clear hit
      refine wp_region_held_drew (S := fun w' => (∀ j, w'.cell? ⟨w.heap.size + 1, j, none⟩ = #[Value.slice Ax xl.length cx, .slice Ay xv.length cy, .int .i64 xver, .int .i64 xep, .bool xer][j]?) ∧ w'.cell? ⟨w.heap.size, 0, none⟩ = some (.slice (some ⟨xb, xo, none⟩) ents.length c) ∧ w'.cell? ⟨w.heap.size, 1, none⟩ = some (.int .i64 eps) ∧ Below W.heap.size W w') (by kernel_rfl) (hK.out _ (bel_drew (Below.refl _ _))) (fun hHeld => ?_)
      refine hw_t (i := 0) (d := some 13) (v := ?_) rfl rfl (by kernel_rfl) (by kernel_rfl) (by kernel_rfl) (fun _ _ _ h => h) (by rfl) ?_ (by assumption) ?_
      rotate_left
      · intro w' hSw
        go_split_ands
        go_simp
        try with_reducible rfl
      try simp only [Act.put, List.setIfInBounds_toArray, List.set_cons_zero, List.set_cons_succ]
      refine hw_t (i := 1) (d := some 14) (v := ?_) rfl rfl (by kernel_rfl) (by kernel_rfl) (by kernel_rfl) (fun _ _ _ h => h) (by rfl) ?_ (by assumption) ?_
      rotate_left
      · intro w' hSw
        go_split_ands
        go_simp
        try with_reducible rfl
      try simp only [Act.put, List.setIfInBounds_toArray, List.set_cons_zero, List.set_cons_succ]
      refine hw_t (i := 2) (d := some 15) (v := ?_) rfl rfl (by kernel_rfl) (by kernel_rfl) (by kernel_rfl) (fun _ _ _ h => h) (by rfl) ?_ (by assumption) ?_
      rotate_left
      · intro w' hSw
        go_split_ands
        go_simp
        try with_reducible rfl
      try simp only [Act.put, List.setIfInBounds_toArray, List.set_cons_zero, List.set_cons_succ]
      refine hw_t (i := 3) (d := some 16) (v := ?_) rfl rfl (by kernel_rfl) (by kernel_rfl) (by kernel_rfl) (fun _ _ _ h => h) (by rfl) ?_ (by assumption) ?_
      rotate_left
      · intro w' hSw
        go_split_ands
        go_simp
        try with_reducible rfl
      try simp only [Act.put, List.setIfInBounds_toArray, List.set_cons_zero, List.set_cons_succ]
      refine hw_t (i := 4) (d := some 17) (v := ?_) rfl rfl (by kernel_rfl) (by kernel_rfl) (by kernel_rfl) (fun _ _ _ h => h) (by rfl) ?_ (by assumption) ?_
      rotate_left
      · intro w' hSw
        go_split_ands
        go_simp
        try with_reducible rfl
      try simp only [Act.put, List.setIfInBounds_toArray, List.set_cons_zero, List.set_cons_succ]
      refine hw_t (i := 5) (d := some 18) (v := ?_) rfl rfl (by kernel_rfl) (by kernel_rfl) (by kernel_rfl) (fun _ _ _ h => h) (by rfl) ?_ (by assumption) ?_
      rotate_left
      · intro w' hSw
        go_split_ands
        go_simp
        try with_reducible rfl
      try simp only [Act.put, List.setIfInBounds_toArray, List.set_cons_zero, List.set_cons_succ]
      refine hw_t (i := 6) (d := some 19) (v := ?_) rfl rfl (by kernel_rfl) (by kernel_rfl) (by kernel_rfl) (fun _ _ _ h => h) (by rfl) ?_ (by assumption) ?_
      rotate_left
      · intro w' hSw
        go_split_ands
        go_simp
        try with_reducible rfl
      try simp only [Act.put, List.setIfInBounds_toArray, List.set_cons_zero, List.set_cons_succ]
      refine wpAnyH_ready (rs := [7]) (by kernel_rfl) (by simp) ?_
      refine AllReadyH.cons (o := _) rfl (fun K hK' => ?_) AllReadyH.nil
      go_simp
      refine (rc10_any Ax cx Ay cy xver xl xv _).mono ?_
      rw [HI.out]
      simp only [Bool.false_eq_true, if_false]
      rintro e w3 ⟨rfl, hB3⟩
      have hW3 := keepB hB3 (bel_drew (Below.refl _ W))
      refine hK'.out _ _ (hK.out _ hW3) (fun hHeld2 => ?_)
      clear hHeld hK'
      try simp only [Act.put, List.setIfInBounds_toArray, List.set_cons_zero, List.set_cons_succ]
      refine hw_t (i := 8) (d := some 21) (v := ?_) rfl rfl (by kernel_rfl) (by kernel_rfl) (by kernel_rfl) (fun _ _ _ h => h) (by rfl) ?_ (by assumption) ?_
      rotate_left
      · intro w' hSw
        go_split_ands
        go_simp
        try with_reducible rfl
      try simp only [Act.put, List.setIfInBounds_toArray, List.set_cons_zero, List.set_cons_succ]
      refine hw_t (i := 9) (d := some 22) (v := ?_) rfl rfl (by kernel_rfl) (by kernel_rfl) (by kernel_rfl) (fun _ _ _ h => h) (by rfl) ?_ (by assumption) ?_
      rotate_left
      · intro w' hSw
        go_split_ands
        go_simp
        try with_reducible rfl
      try simp only [Act.put, List.setIfInBounds_toArray, List.set_cons_zero, List.set_cons_succ]
      refine hw_u (i := 10) (d := some 23) rfl rfl (by kernel_rfl) (by kernel_rfl) (by kernel_rfl) (fun _ _ _ h => h) (by rfl) (by assumption) ?_
      try simp only [Act.put, List.setIfInBounds_toArray, List.set_cons_zero, List.set_cons_succ]
      refine hw_u (i := 11) (d := some 24) rfl rfl (by kernel_rfl) (by kernel_rfl) (by kernel_rfl) (fun _ _ _ h => h) (by rfl) (by assumption) ?_
      try simp only [Act.put, List.setIfInBounds_toArray, List.set_cons_zero, List.set_cons_succ]
      refine hw_u (i := 12) (d := some 25) rfl rfl (by kernel_rfl) (by kernel_rfl) (by kernel_rfl) (fun _ _ _ h => h) (by rfl) (by assumption) ?_
      try simp only [Act.put, List.setIfInBounds_toArray, List.set_cons_zero, List.set_cons_succ]
      refine hw_u (i := 13) (d := some 26) rfl rfl (by kernel_rfl) (by kernel_rfl) (by kernel_rfl) (fun _ _ _ h => h) (by rfl) (by assumption) ?_
      try simp only [Act.put, List.setIfInBounds_toArray, List.set_cons_zero, List.set_cons_succ]
      refine hw_u (i := 14) (d := some 27) rfl rfl (by kernel_rfl) (by kernel_rfl) (by kernel_rfl) (fun _ _ _ h => h) (by rfl) (by assumption) ?_
      try simp only [Act.put, List.setIfInBounds_toArray, List.set_cons_zero, List.set_cons_succ]
      refine hw_u (i := 15) (d := some 28) rfl rfl (by kernel_rfl) (by kernel_rfl) (by kernel_rfl) (fun _ _ _ h => h) (by rfl) (by assumption) ?_
      try simp only [Act.put, List.setIfInBounds_toArray, List.set_cons_zero, List.set_cons_succ]
      refine hw_u (i := 16) (d := some 29) rfl rfl (by kernel_rfl) (by kernel_rfl) (by kernel_rfl) (fun _ _ _ h => h) (by rfl) (by assumption) ?_
      try simp only [Act.put, List.setIfInBounds_toArray, List.set_cons_zero, List.set_cons_succ]
      refine hw_u (i := 17) (d := some 30) rfl rfl (by kernel_rfl) (by kernel_rfl) (by kernel_rfl) (fun _ _ _ h => h) (by rfl) (by assumption) ?_
      try simp only [Act.put, List.setIfInBounds_toArray, List.set_cons_zero, List.set_cons_succ]
      refine hw_u (i := 18) (d := some 31) rfl rfl (by kernel_rfl) (by kernel_rfl) (by kernel_rfl) (fun _ _ _ h => h) (by rfl) (by assumption) ?_
      try simp only [Act.put, List.setIfInBounds_toArray, List.set_cons_zero, List.set_cons_succ]
      refine hw_t (i := 19) (d := some 32) (v := ?_) rfl rfl (by kernel_rfl) (by kernel_rfl) (by kernel_rfl) (fun _ _ _ h => h) (by rfl) ?_ (by assumption) ?_
      rotate_left
      · intro w' hSw
        go_split_ands
        go_simp
        try with_reducible rfl
      try simp only [Act.put, List.setIfInBounds_toArray, List.set_cons_zero, List.set_cons_succ]
      refine hw_t (i := 20) (d := some 33) (v := ?_) rfl rfl (by kernel_rfl) (by kernel_rfl) (by kernel_rfl) (fun _ _ _ h => h) (by rfl) ?_ (by assumption) ?_
      rotate_left
      · intro w' hSw
        go_split_ands
        go_simp
        try with_reducible rfl
      try simp only [Act.put, List.setIfInBounds_toArray, List.set_cons_zero, List.set_cons_succ]
      refine hw_u (i := 21) (d := some 34) rfl rfl (by kernel_rfl) (by kernel_rfl) (by kernel_rfl) (fun _ _ _ h => h) (by rfl) (by assumption) ?_
      try simp only [Act.put, List.setIfInBounds_toArray, List.set_cons_zero, List.set_cons_succ]
      refine hw_u (i := 22) (d := some 35) rfl rfl (by kernel_rfl) (by kernel_rfl) (by kernel_rfl) (fun _ _ _ h => h) (by rfl) (by assumption) ?_
      try simp only [Act.put, List.setIfInBounds_toArray, List.set_cons_zero, List.set_cons_succ]
      refine hw_u (i := 23) (d := some 36) rfl rfl (by kernel_rfl) (by kernel_rfl) (by kernel_rfl) (fun _ _ _ h => h) (by rfl) (by assumption) ?_
      try simp only [Act.put, List.setIfInBounds_toArray, List.set_cons_zero, List.set_cons_succ]
      refine hw_t (i := 24) (d := some 37) (v := ?_) rfl rfl (by kernel_rfl) (by kernel_rfl) (by kernel_rfl) (fun _ _ _ h => h) (by rfl) ?_ (by assumption) ?_
      rotate_left
      · intro w' hSw
        go_split_ands
        go_simp
        try with_reducible rfl
      try simp only [Act.put, List.setIfInBounds_toArray, List.set_cons_zero, List.set_cons_succ]
      refine hw_t (i := 25) (d := some 38) (v := ?_) rfl rfl (by kernel_rfl) (by kernel_rfl) (by kernel_rfl) (fun _ _ _ h => h) (by rfl) ?_ (by assumption) ?_
      rotate_left
      · intro w' hSw
        go_split_ands
        go_simp
        try with_reducible rfl
      try simp only [Act.put, List.setIfInBounds_toArray, List.set_cons_zero, List.set_cons_succ]
      refine hw_u (i := 26) (d := some 39) rfl rfl (by kernel_rfl) (by kernel_rfl) (by kernel_rfl) (fun _ _ _ h => h) (by rfl) (by assumption) ?_
      try simp only [Act.put, List.setIfInBounds_toArray, List.set_cons_zero, List.set_cons_succ]
      refine hw_u (i := 27) (d := some 40) rfl rfl (by kernel_rfl) (by kernel_rfl) (by kernel_rfl) (fun _ _ _ h => h) (by rfl) (by assumption) ?_
      try simp only [Act.put, List.setIfInBounds_toArray, List.set_cons_zero, List.set_cons_succ]
      refine hw_u (i := 28) (d := some 41) rfl rfl (by kernel_rfl) (by kernel_rfl) (by kernel_rfl) (fun _ _ _ h => h) (by rfl) (by assumption) ?_
      try simp only [Act.put, List.setIfInBounds_toArray, List.set_cons_zero, List.set_cons_succ]
      refine hw_u (i := 29) (d := some 42) rfl rfl (by kernel_rfl) (by kernel_rfl) (by kernel_rfl) (fun _ _ _ h => h) (by rfl) (by assumption) ?_
      try simp only [Act.put, List.setIfInBounds_toArray, List.set_cons_zero, List.set_cons_succ]
      refine hw_u (i := 30) (d := some 43) rfl rfl (by kernel_rfl) (by kernel_rfl) (by kernel_rfl) (fun _ _ _ h => h) (by rfl) (by assumption) ?_
      try simp only [Act.put, List.setIfInBounds_toArray, List.set_cons_zero, List.set_cons_succ]
      refine hw_t (i := 31) (d := some 44) (v := ?_) rfl rfl (by kernel_rfl) (by kernel_rfl) (by kernel_rfl) (fun _ _ _ h => h) (by rfl) ?_ (by assumption) ?_
      rotate_left
      · intro w' hSw
        go_split_ands
        go_simp
        try with_reducible rfl
      try simp only [Act.put, List.setIfInBounds_toArray, List.set_cons_zero, List.set_cons_succ]
      refine wpAnyH_done (by kernel_rfl) ?_ _
      go_wp2_with fail
      go_meet
      exact ⟨HDV.out, hW3⟩
    · have HI := Lib.hid hit
      cases hv : (xver != 1 + (cn : Int))
      · cases hng : decide (xep < 0)
        · have HDV : Hid (Value.bool (decide (eps < xep)) = .bool hd) := Lib.hid (by rw [HD.out]; simp [headB, hit, hv, hng])
          obtain ⟨lt, hlt⟩ : ∃ lt, lt = decide (eps < xep) := ⟨_, rfl⟩
          rw [← hlt] at HDV
          have hlt' := hlt.symm
          clear hit hlt
          refine wp_region_held_drew (S := fun w' => (∀ j, w'.cell? ⟨w.heap.size + 1, j, none⟩ = #[Value.slice Ax xl.length cx, .slice Ay xv.length cy, .int .i64 xver, .int .i64 xep, .bool xer][j]?) ∧ w'.cell? ⟨w.heap.size, 0, none⟩ = some (.slice (some ⟨xb, xo, none⟩) ents.length c) ∧ w'.cell? ⟨w.heap.size, 1, none⟩ = some (.int .i64 eps) ∧ Below W.heap.size W w') (by kernel_rfl) (hK.out _ (bel_drew (Below.refl _ _))) (fun hHeld => ?_)
          refine hw_t (i := 0) (d := some 13) (v := ?_) rfl rfl (by kernel_rfl) (by kernel_rfl) (by kernel_rfl) (fun _ _ _ h => h) (by rfl) ?_ (by assumption) ?_
          rotate_left
          · intro w' hSw
            go_split_ands
            go_simp
            try with_reducible rfl
          try simp only [Act.put, List.setIfInBounds_toArray, List.set_cons_zero, List.set_cons_succ]
          refine hw_t (i := 1) (d := some 14) (v := ?_) rfl rfl (by kernel_rfl) (by kernel_rfl) (by kernel_rfl) (fun _ _ _ h => h) (by rfl) ?_ (by assumption) ?_
          rotate_left
          · intro w' hSw
            go_split_ands
            go_simp
            try with_reducible rfl
          try simp only [Act.put, List.setIfInBounds_toArray, List.set_cons_zero, List.set_cons_succ]
          refine hw_t (i := 2) (d := some 15) (v := ?_) rfl rfl (by kernel_rfl) (by kernel_rfl) (by kernel_rfl) (fun _ _ _ h => h) (by rfl) ?_ (by assumption) ?_
          rotate_left
          · intro w' hSw
            go_split_ands
            go_simp
            try with_reducible rfl
          try simp only [Act.put, List.setIfInBounds_toArray, List.set_cons_zero, List.set_cons_succ]
          refine hw_t (i := 3) (d := some 16) (v := ?_) rfl rfl (by kernel_rfl) (by kernel_rfl) (by kernel_rfl) (fun _ _ _ h => h) (by rfl) ?_ (by assumption) ?_
          rotate_left
          · intro w' hSw
            go_split_ands
            go_simp
            try with_reducible rfl
          try simp only [Act.put, List.setIfInBounds_toArray, List.set_cons_zero, List.set_cons_succ]
          refine hw_t (i := 4) (d := some 17) (v := ?_) rfl rfl (by kernel_rfl) (by kernel_rfl) (by kernel_rfl) (fun _ _ _ h => h) (by rfl) ?_ (by assumption) ?_
          rotate_left
          · intro w' hSw
            go_split_ands
            go_simp
            try with_reducible rfl
          try simp only [Act.put, List.setIfInBounds_toArray, List.set_cons_zero, List.set_cons_succ]
          refine hw_t (i := 5) (d := some 18) (v := ?_) rfl rfl (by kernel_rfl) (by kernel_rfl) (by kernel_rfl) (fun _ _ _ h => h) (by rfl) ?_ (by assumption) ?_
          rotate_left
          · intro w' hSw
            go_split_ands
            go_simp
            try with_reducible rfl
          try simp only [Act.put, List.setIfInBounds_toArray, List.set_cons_zero, List.set_cons_succ]
          refine hw_t (i := 6) (d := some 19) (v := ?_) rfl rfl (by kernel_rfl) (by kernel_rfl) (by kernel_rfl) (fun _ _ _ h => h) (by rfl) ?_ (by assumption) ?_
          rotate_left
          · intro w' hSw
            go_split_ands
            go_simp
            try with_reducible rfl
          try simp only [Act.put, List.setIfInBounds_toArray, List.set_cons_zero, List.set_cons_succ]
          refine wpAnyH_ready (rs := [7]) (by kernel_rfl) (by simp) ?_
          refine AllReadyH.cons (o := _) rfl (fun K hK' => ?_) AllReadyH.nil
          go_simp
          refine (rc10_any Ax cx Ay cy xver xl xv _).mono ?_
          rw [HI.out]
          simp only [if_true]
          rintro e w3 ⟨rfl, hB3⟩
          have hW3 := keepB hB3 (bel_drew (Below.refl _ W))
          refine hK'.out _ _ (hK.out _ hW3) (fun hHeld2 => ?_)
          clear hHeld hK'
          try simp only [Act.put, List.setIfInBounds_toArray, List.set_cons_zero, List.set_cons_succ]
          refine hw_t (i := 8) (d := some 21) (v := ?_) rfl rfl (by kernel_rfl) (by kernel_rfl) (by kernel_rfl) (fun _ _ _ h => h) (by rfl) ?_ (by assumption) ?_
          rotate_left
          · intro w' hSw
            go_split_ands
            go_simp
            try with_reducible rfl
          try simp only [Act.put, List.setIfInBounds_toArray, List.set_cons_zero, List.set_cons_succ]
          refine hw_t (i := 9) (d := some 22) (v := ?_) rfl rfl (by kernel_rfl) (by kernel_rfl) (by kernel_rfl) (fun _ _ _ h => h) (by rfl) ?_ (by assumption) ?_
          rotate_left
          · intro w' hSw
            go_split_ands
            go_simp
            try with_reducible rfl
          try simp only [Act.put, List.setIfInBounds_toArray, List.set_cons_zero, List.set_cons_succ]
          refine hw_t (i := 10) (d := some 23) (v := ?_) rfl rfl (by kernel_rfl) (by kernel_rfl) (by kernel_rfl) (fun _ _ _ h => h) (by rfl) ?_ (by assumption) ?_
          rotate_left
          · intro w' hSw
            go_split_ands
            go_simp
            try with_reducible rfl
          try simp only [Act.put, List.setIfInBounds_toArray, List.set_cons_zero, List.set_cons_succ]
          refine hw_t (i := 11) (d := some 24) (v := ?_) rfl rfl (by kernel_rfl) (by kernel_rfl) (by kernel_rfl) (fun _ _ _ h => h) (by rfl) ?_ (by assumption) ?_
          rotate_left
          · intro w' hSw
            go_split_ands
            go_simp
            try with_reducible rfl
          try simp only [Act.put, List.setIfInBounds_toArray, List.set_cons_zero, List.set_cons_succ]
          refine hw_t (i := 12) (d := some 25) (v := ?_) rfl rfl (by kernel_rfl) (by kernel_rfl) (by kernel_rfl) (fun _ _ _ h => h) (by rfl) ?_ (by assumption) ?_
          rotate_left
          · intro w' hSw
            go_split_ands
            go_simp
            try with_reducible rfl
          try simp only [Act.put, List.setIfInBounds_toArray, List.set_cons_zero, List.set_cons_succ]
          refine hw_t (i := 13) (d := some 26) (v := ?_) rfl rfl (by kernel_rfl) (by kernel_rfl) (by kernel_rfl) (fun _ _ _ h => h) (by rfl) ?_ (by assumption) ?_
          rotate_left
          · intro w' hSw
            go_split_ands
            go_simp
            try with_reducible rfl
          try simp only [Act.put, List.setIfInBounds_toArray, List.set_cons_zero, List.set_cons_succ]
          refine hw_t (i := 14) (d := some 27) (v := ?_) rfl rfl (by kernel_rfl) (by kernel_rfl) (by kernel_rfl) (fun _ _ _ h => h) (by rfl) ?_ (by assumption) ?_
          rotate_left
          · intro w' hSw
            go_split_ands
            go_simp
            try with_reducible rfl
          try simp only [Act.put, List.setIfInBounds_toArray, List.set_cons_zero, List.set_cons_succ]
          refine hw_t (i := 15) (d := some 28) (v := ?_) rfl rfl (by kernel_rfl) (by kernel_rfl) (by kernel_rfl) (fun _ _ _ h => h) (by rfl) ?_ (by assumption) ?_
          rotate_left
          · intro w' hSw
            go_split_ands
            go_simp
            try with_reducible rfl
          try simp only [Act.put, List.setIfInBounds_toArray, List.set_cons_zero, List.set_cons_succ]
          refine wpAnyH_ready (rs := [16]) (by kernel_rfl) (by simp) ?_
          refine AllReadyH.cons (o := _) rfl (fun K hK' => ?_) AllReadyH.nil
          go_simp
          refine (many_any (some ⟨xb, xo, none⟩) c ⟨ents, eps⟩ Ax cx xl i _ (ents_after HE.out hW3) H1.out H2.out hn (Nat.le_of_lt hi) (rd_after HP.out hW3)).mono ?_
          rw [← HCN.out]
          rintro e w5 ⟨rfl, hB5⟩
          have hW5 := keepB hB5 hW3
          refine hK'.out _ _ (hK.out _ hW5) (fun hHeld3 => ?_)
          clear hHeld2 hK'
          try simp only [Act.put, List.setIfInBounds_toArray, List.set_cons_zero, List.set_cons_succ]
          refine hw_t (i := 17) (d := some 30) (v := ?_) rfl rfl (by kernel_rfl) (by kernel_rfl) (by kernel_rfl) (fun _ _ _ h => h) (by rfl) ?_ (by assumption) ?_
          rotate_left
          · intro w' hSw
            go_split_ands
            go_simp
            try with_reducible rfl
          try simp only [Act.put, List.setIfInBounds_toArray, List.set_cons_zero, List.set_cons_succ]
          refine hw_t (i := 18) (d := some 31) (v := ?_) rfl rfl (by kernel_rfl) (by kernel_rfl) (by kernel_rfl) (fun _ _ _ h => h) (by rfl) ?_ (by assumption) ?_
          rotate_left
          · intro w' hSw
            go_split_ands
            go_simp
            try with_reducible rfl
          try simp only [Act.put, List.setIfInBounds_toArray, List.set_cons_zero, List.set_cons_succ]
          refine hw_t (i := 19) (d := some 32) (v := ?_) rfl rfl (by kernel_rfl) (by kernel_rfl) (by kernel_rfl) (fun _ _ _ h => h) (by rfl) ?_ (by assumption) ?_
          rotate_left
          · intro w' hSw
            go_split_ands
            go_simp
            try with_reducible rfl
          try simp only [Act.put, List.setIfInBounds_toArray, List.set_cons_zero, List.set_cons_succ]
          refine hw_t (i := 20) (d := some 33) (v := ?_) rfl rfl (by kernel_rfl) (by kernel_rfl) (by kernel_rfl) (fun _ _ _ h => h) (by rfl) ?_ (by assumption) ?_
          rotate_left
          · intro w' hSw
            go_split_ands
            go_simp
            try with_reducible rfl
          try simp only [Act.put, List.setIfInBounds_toArray, List.set_cons_zero, List.set_cons_succ]
          refine hw_t (i := 21) (d := some 34) (v := ?_) rfl rfl (by kernel_rfl) (by kernel_rfl) (by kernel_rfl) (fun _ _ _ h => h) (by rfl) ?_ (by assumption) ?_
          rotate_left
          · intro w' hSw
            go_split_ands
            go_simp
            try with_reducible rfl
          try simp only [Act.put, List.setIfInBounds_toArray, List.set_cons_zero, List.set_cons_succ]
          refine hw_t (i := 22) (d := some 35) (v := ?_) rfl rfl (by kernel_rfl) (by kernel_rfl) (by kernel_rfl) (fun _ _ _ h => h) (by rfl) ?_ (by assumption) ?_
          rotate_left
          · intro w' hSw
            go_split_ands
            go_simp
            try with_reducible rfl
          try simp only [Act.put, List.setIfInBounds_toArray, List.set_cons_zero, List.set_cons_succ]
          refine hw_t (i := 23) (d := some 36) (v := ?_) rfl rfl (by kernel_rfl) (by kernel_rfl) (by kernel_rfl) (fun _ _ _ h => h) (by rfl) ?_ (by assumption) ?_
          rotate_left
          · intro w' hSw
            go_split_ands
            go_simp
            try with_reducible rfl
          try simp only [Act.put, List.setIfInBounds_toArray, List.set_cons_zero, List.set_cons_succ]
          refine hw_t (i := 24) (d := some 37) (v := ?_) rfl rfl (by kernel_rfl) (by kernel_rfl) (by kernel_rfl) (fun _ _ _ h => h) (by rfl) ?_ (by assumption) ?_
          rotate_left
          · intro w' hSw
            go_split_ands
            go_simp
            try with_reducible rfl
          try simp only [Act.put, List.setIfInBounds_toArray, List.set_cons_zero, List.set_cons_succ]
          refine hw_t (i := 25) (d := some 38) (v := ?_) rfl rfl (by kernel_rfl) (by kernel_rfl) (by kernel_rfl) (fun _ _ _ h => h) (by rfl) ?_ (by assumption) ?_
          rotate_left
          · intro w' hSw
            go_split_ands
            go_simp
            try with_reducible rfl
          try simp only [Act.put, List.setIfInBounds_toArray, List.set_cons_zero, List.set_cons_succ]
          refine hw_t (i := 26) (d := some 39) (v := ?_) rfl rfl (by kernel_rfl) (by kernel_rfl) (by kernel_rfl) (fun _ _ _ h => h) (by rfl) ?_ (by assumption) ?_
          rotate_left
          · intro w' hSw
            go_split_ands
            go_simp
            try with_reducible rfl
          try simp only [Act.put, List.setIfInBounds_toArray, List.set_cons_zero, List.set_cons_succ]
          refine hw_t (i := 27) (d := some 40) (v := ?_) rfl rfl (by kernel_rfl) (by kernel_rfl) (by kernel_rfl) (fun _ _ _ h => h) (by rfl) ?_ (by assumption) ?_
          rotate_left
          · intro w' hSw
            go_split_ands
            go_simp
            try with_reducible rfl
          try simp only [Act.put, List.setIfInBounds_toArray, List.set_cons_zero, List.set_cons_succ]
          refine hw_t (i := 28) (d := some 41) (v := ?_) rfl rfl (by kernel_rfl) (by kernel_rfl) (by kernel_rfl) (fun _ _ _ h => h) (by rfl) ?_ (by assumption) ?_
          rotate_left
          · intro w' hSw
            go_split_ands
            go_simp
            try with_reducible rfl
          try simp only [Act.put, List.setIfInBounds_toArray, List.set_cons_zero, List.set_cons_succ]
          refine hw_t (i := 29) (d := some 42) (v := ?_) rfl rfl (by kernel_rfl) (by kernel_rfl) (by kernel_rfl) (fun _ _ _ h => h) (by rfl) ?_ (by assumption) ?_
          rotate_left
          · intro w' hSw
            go_split_ands
            go_simp
            try with_reducible rfl
          try simp only [Act.put, List.setIfInBounds_toArray, List.set_cons_zero, List.set_cons_succ]
          refine hw_t (i := 30) (d := some 43) (v := ?_) rfl rfl (by kernel_rfl) (by kernel_rfl) (by kernel_rfl) (fun _ _ _ h => h) (by rfl) ?_ (by assumption) ?_
          rotate_left
          · intro w' hSw
            go_split_ands
            go_simp
            try with_reducible rfl
          try simp only [Act.put, List.setIfInBounds_toArray, List.set_cons_zero, List.set_cons_succ]
          refine hw_t (i := 31) (d := some 44) (v := ?_) rfl rfl (by kernel_rfl) (by kernel_rfl) (by kernel_rfl) (fun _ _ _ h => h) (by rfl) ?_ (by assumption) ?_
          rotate_left
          · intro w' hSw
            go_split_ands
            go_simp
            try with_reducible rfl
          try simp only [Act.put, List.setIfInBounds_toArray, List.set_cons_zero, List.set_cons_succ]
          refine wpAnyH_done (by kernel_rfl) ?_ _
          go_wp2_with fail
          go_meet
          exact ⟨HDV.out, hW5⟩
        · have HDV : Hid (Value.bool true = .bool hd) := Lib.hid (by rw [HD.out]; simp [headB, hit, hv, hng])
          clear hit
          refine wp_region_held_drew (S := fun w' => (∀ j, w'.cell? ⟨w.heap.size + 1, j, none⟩ = #[Value.slice Ax xl.length cx, .slice Ay xv.length cy, .int .i64 xver, .int .i64 xep, .bool xer][j]?) ∧ w'.cell? ⟨w.heap.size, 0, none⟩ = some (.slice (some ⟨xb, xo, none⟩) ents.length c) ∧ w'.cell? ⟨w.heap.size, 1, none⟩ = some (.int .i64 eps) ∧ Below W.heap.size W w') (by kernel_rfl) (hK.out _ (bel_drew (Below.refl _ _))) (fun hHeld => ?_)
          refine hw_t (i := 0) (d := some 13) (v := ?_) rfl rfl (by kernel_rfl) (by kernel_rfl) (by kernel_rfl) (fun _ _ _ h => h) (by rfl) ?_ (by assumption) ?_
          rotate_left
          · intro w' hSw
            go_split_ands
            go_simp
            try with_reducible rfl
          try simp only [Act.put, List.setIfInBounds_toArray, List.set_cons_zero, List.set_cons_succ]
          refine hw_t (i := 1) (d := some 14) (v := ?_) rfl rfl (by kernel_rfl) (by kernel_rfl) (by kernel_rfl) (fun _ _ _ h => h) (by rfl) ?_ (by assumption) ?_
          rotate_left
          · intro w' hSw
            go_split_ands
            go_simp
            try with_reducible rfl
          try simp only [Act.put, List.setIfInBounds_toArray, List.set_cons_zero, List.set_cons_succ]
          refine hw_t (i := 2) (d := some 15) (v := ?_) rfl rfl (by kernel_rfl) (by kernel_rfl) (by kernel_rfl) (fun _ _ _ h => h) (by rfl) ?_ (by assumption) ?_
          rotate_left
          · intro w' hSw
            go_split_ands
            go_simp
            try with_reducible rfl
          try simp only [Act.put, List.setIfInBounds_toArray, List.set_cons_zero, List.set_cons_succ]
          refine hw_t (i := 3) (d := some 16) (v := ?_) rfl rfl (by kernel_rfl) (by kernel_rfl) (by kernel_rfl) (fun _ _ _ h => h) (by rfl) ?_ (by assumption) ?_
          rotate_left
          · intro w' hSw
            go_split_ands
            go_simp
            try with_reducible rfl
          try simp only [Act.put, List.setIfInBounds_toArray, List.set_cons_zero, List.set_cons_succ]
          refine hw_t (i := 4) (d := some 17) (v := ?_) rfl rfl (by kernel_rfl) (by kernel_rfl) (by kernel_rfl) (fun _ _ _ h => h) (by rfl) ?_ (by assumption) ?_
          rotate_left
          · intro w' hSw
            go_split_ands
            go_simp
            try with_reducible rfl
          try simp only [Act.put, List.setIfInBounds_toArray, List.set_cons_zero, List.set_cons_succ]
          refine hw_t (i := 5) (d := some 18) (v := ?_) rfl rfl (by kernel_rfl) (by kernel_rfl) (by kernel_rfl) (fun _ _ _ h => h) (by rfl) ?_ (by assumption) ?_
          rotate_left
          · intro w' hSw
            go_split_ands
            go_simp
            try with_reducible rfl
          try simp only [Act.put, List.setIfInBounds_toArray, List.set_cons_zero, List.set_cons_succ]
          refine hw_t (i := 6) (d := some 19) (v := ?_) rfl rfl (by kernel_rfl) (by kernel_rfl) (by kernel_rfl) (fun _ _ _ h => h) (by rfl) ?_ (by assumption) ?_
          rotate_left
          · intro w' hSw
            go_split_ands
            go_simp
            try with_reducible rfl
          try simp only [Act.put, List.setIfInBounds_toArray, List.set_cons_zero, List.set_cons_succ]
          refine wpAnyH_ready (rs := [7]) (by kernel_rfl) (by simp) ?_
          refine AllReadyH.cons (o := _) rfl (fun K hK' => ?_) AllReadyH.nil
          go_simp
          refine (rc10_any Ax cx Ay cy xver xl xv _).mono ?_
          rw [HI.out]
          simp only [if_true]
          rintro e w3 ⟨rfl, hB3⟩
          have hW3 := keepB hB3 (bel_drew (Below.refl _ W))
          refine hK'.out _ _ (hK.out _ hW3) (fun hHeld2 => ?_)
          clear hHeld hK'
          try simp only [Act.put, List.setIfInBounds_toArray, List.set_cons_zero, List.set_cons_succ]
          refine hw_t (i := 8) (d := some 21) (v := ?_) rfl rfl (by kernel_rfl) (by kernel_rfl) (by kernel_rfl) (fun _ _ _ h => h) (by rfl) ?_ (by assumption) ?_
          rotate_left
          · intro w' hSw
            go_split_ands
            go_simp
            try with_reducible rfl
          try simp only [Act.put, List.setIfInBounds_toArray, List.set_cons_zero, List.set_cons_succ]
          refine hw_t (i := 9) (d := some 22) (v := ?_) rfl rfl (by kernel_rfl) (by kernel_rfl) (by kernel_rfl) (fun _ _ _ h => h) (by rfl) ?_ (by assumption) ?_
          rotate_left
          · intro w' hSw
            go_split_ands
            go_simp
            try with_reducible rfl
          try simp only [Act.put, List.setIfInBounds_toArray, List.set_cons_zero, List.set_cons_succ]
          refine hw_t (i := 10) (d := some 23) (v := ?_) rfl rfl (by kernel_rfl) (by kernel_rfl) (by kernel_rfl) (fun _ _ _ h => h) (by rfl) ?_ (by assumption) ?_
          rotate_left
          · intro w' hSw
            go_split_ands
            go_simp
            try with_reducible rfl
          try simp only [Act.put, List.setIfInBounds_toArray, List.set_cons_zero, List.set_cons_succ]
          refine hw_t (i := 11) (d := some 24) (v := ?_) rfl rfl (by kernel_rfl) (by kernel_rfl) (by kernel_rfl) (fun _ _ _ h => h) (by rfl) ?_ (by assumption) ?_
          rotate_left
          · intro w' hSw
            go_split_ands
            go_simp
            try with_reducible rfl
          try simp only [Act.put, List.setIfInBounds_toArray, List.set_cons_zero, List.set_cons_succ]
          refine hw_t (i := 12) (d := some 25) (v := ?_) rfl rfl (by kernel_rfl) (by kernel_rfl) (by kernel_rfl) (fun _ _ _ h => h) (by rfl) ?_ (by assumption) ?_
          rotate_left
          · intro w' hSw
            go_split_ands
            go_simp
            try with_reducible rfl
          try simp only [Act.put, List.setIfInBounds_toArray, List.set_cons_zero, List.set_cons_succ]
          refine hw_t (i := 13) (d := some 26) (v := ?_) rfl rfl (by kernel_rfl) (by kernel_rfl) (by kernel_rfl) (fun _ _ _ h => h) (by rfl) ?_ (by assumption) ?_
          rotate_left
          · intro w' hSw
            go_split_ands
            go_simp
            try with_reducible rfl
          try simp only [Act.put, List.setIfInBounds_toArray, List.set_cons_zero, List.set_cons_succ]
          refine hw_t (i := 14) (d := some 27) (v := ?_) rfl rfl (by kernel_rfl) (by kernel_rfl) (by kernel_rfl) (fun _ _ _ h => h) (by rfl) ?_ (by assumption) ?_
          rotate_left
          · intro w' hSw
            go_split_ands
            go_simp
            try with_reducible rfl
          try simp only [Act.put, List.setIfInBounds_toArray, List.set_cons_zero, List.set_cons_succ]
          refine hw_t (i := 15) (d := some 28) (v := ?_) rfl rfl (by kernel_rfl) (by kernel_rfl) (by kernel_rfl) (fun _ _ _ h => h) (by rfl) ?_ (by assumption) ?_
          rotate_left
          · intro w' hSw
            go_split_ands
            go_simp
            try with_reducible rfl
          try simp only [Act.put, List.setIfInBounds_toArray, List.set_cons_zero, List.set_cons_succ]
          refine wpAnyH_ready (rs := [16]) (by kernel_rfl) (by simp) ?_
          refine AllReadyH.cons (o := _) rfl (fun K hK' => ?_) AllReadyH.nil
          go_simp
          refine (many_any (some ⟨xb, xo, none⟩) c ⟨ents, eps⟩ Ax cx xl i _ (ents_after HE.out hW3) H1.out H2.out hn (Nat.le_of_lt hi) (rd_after HP.out hW3)).mono ?_
          rw [← HCN.out]
          rintro e w5 ⟨rfl, hB5⟩
          have hW5 := keepB hB5 hW3
          refine hK'.out _ _ (hK.out _ hW5) (fun hHeld3 => ?_)
          clear hHeld2 hK'
          try simp only [Act.put, List.setIfInBounds_toArray, List.set_cons_zero, List.set_cons_succ]
          refine hw_t (i := 17) (d := some 30) (v := ?_) rfl rfl (by kernel_rfl) (by kernel_rfl) (by kernel_rfl) (fun _ _ _ h => h) (by rfl) ?_ (by assumption) ?_
          rotate_left
          · intro w' hSw
            go_split_ands
            go_simp
            try with_reducible rfl
          try simp only [Act.put, List.setIfInBounds_toArray, List.set_cons_zero, List.set_cons_succ]
          refine hw_t (i := 18) (d := some 31) (v := ?_) rfl rfl (by kernel_rfl) (by kernel_rfl) (by kernel_rfl) (fun _ _ _ h => h) (by rfl) ?_ (by assumption) ?_
          rotate_left
          · intro w' hSw
            go_split_ands
            go_simp
            try with_reducible rfl
          try simp only [Act.put, List.setIfInBounds_toArray, List.set_cons_zero, List.set_cons_succ]
          refine hw_t (i := 19) (d := some 32) (v := ?_) rfl rfl (by kernel_rfl) (by kernel_rfl) (by kernel_rfl) (fun _ _ _ h => h) (by rfl) ?_ (by assumption) ?_
          rotate_left
          · intro w' hSw
            go_split_ands
            go_simp
            try with_reducible rfl
          try simp only [Act.put, List.setIfInBounds_toArray, List.set_cons_zero, List.set_cons_succ]
          refine hw_t (i := 20) (d := some 33) (v := ?_) rfl rfl (by kernel_rfl) (by kernel_rfl) (by kernel_rfl) (fun _ _ _ h => h) (by rfl) ?_ (by assumption) ?_
          rotate_left
          · intro w' hSw
            go_split_ands
            go_simp
            try with_reducible rfl
          try simp only [Act.put, List.setIfInBounds_toArray, List.set_cons_zero, List.set_cons_succ]
          refine hw_t (i := 21) (d := some 34) (v := ?_) rfl rfl (by kernel_rfl) (by kernel_rfl) (by kernel_rfl) (fun _ _ _ h => h) (by rfl) ?_ (by assumption) ?_
          rotate_left
          · intro w' hSw
            go_split_ands
            go_simp
            try with_reducible rfl
          try simp only [Act.put, List.setIfInBounds_toArray, List.set_cons_zero, List.set_cons_succ]
          refine hw_t (i := 22) (d := some 35) (v := ?_) rfl rfl (by kernel_rfl) (by kernel_rfl) (by kernel_rfl) (fun _ _ _ h => h) (by rfl) ?_ (by assumption) ?_
          rotate_left
          · intro w' hSw
            go_split_ands
            go_simp
            try with_reducible rfl
          try simp only [Act.put, List.setIfInBounds_toArray, List.set_cons_zero, List.set_cons_succ]
          refine hw_t (i := 23) (d := some 36) (v := ?_) rfl rfl (by kernel_rfl) (by kernel_rfl) (by kernel_rfl) (fun _ _ _ h => h) (by rfl) ?_ (by assumption) ?_
          rotate_left
          · intro w' hSw
            go_split_ands
            go_simp
            try with_reducible rfl
          try simp only [Act.put, List.setIfInBounds_toArray, List.set_cons_zero, List.set_cons_succ]
          refine hw_t (i := 24) (d := some 37) (v := ?_) rfl rfl (by kernel_rfl) (by kernel_rfl) (by kernel_rfl) (fun _ _ _ h => h) (by rfl) ?_ (by assumption) ?_
          rotate_left
          · intro w' hSw
            go_split_ands
            go_simp
            try with_reducible rfl
          try simp only [Act.put, List.setIfInBounds_toArray, List.set_cons_zero, List.set_cons_succ]
          refine hw_t (i := 25) (d := some 38) (v := ?_) rfl rfl (by kernel_rfl) (by kernel_rfl) (by kernel_rfl) (fun _ _ _ h => h) (by rfl) ?_ (by assumption) ?_
          rotate_left
          · intro w' hSw
            go_split_ands
            go_simp
            try with_reducible rfl
          try simp only [Act.put, List.setIfInBounds_toArray, List.set_cons_zero, List.set_cons_succ]
          refine hw_u (i := 26) (d := some 39) rfl rfl (by kernel_rfl) (by kernel_rfl) (by kernel_rfl) (fun _ _ _ h => h) (by rfl) (by assumption) ?_
          try simp only [Act.put, List.setIfInBounds_toArray, List.set_cons_zero, List.set_cons_succ]
          refine hw_u (i := 27) (d := some 40) rfl rfl (by kernel_rfl) (by kernel_rfl) (by kernel_rfl) (fun _ _ _ h => h) (by rfl) (by assumption) ?_
          try simp only [Act.put, List.setIfInBounds_toArray, List.set_cons_zero, List.set_cons_succ]
          refine hw_u (i := 28) (d := some 41) rfl rfl (by kernel_rfl) (by kernel_rfl) (by kernel_rfl) (fun _ _ _ h => h) (by rfl) (by assumption) ?_
          try simp only [Act.put, List.setIfInBounds_toArray, List.set_cons_zero, List.set_cons_succ]
          refine hw_u (i := 29) (d := some 42) rfl rfl (by kernel_rfl) (by kernel_rfl) (by kernel_rfl) (fun _ _ _ h => h) (by rfl) (by assumption) ?_
          try simp only [Act.put, List.setIfInBounds_toArray, List.set_cons_zero, List.set_cons_succ]
          refine hw_u (i := 30) (d := some 43) rfl rfl (by kernel_rfl) (by kernel_rfl) (by kernel_rfl) (fun _ _ _ h => h) (by rfl) (by assumption) ?_
          try simp only [Act.put, List.setIfInBounds_toArray, List.set_cons_zero, List.set_cons_succ]
          refine hw_t (i := 31) (d := some 44) (v := ?_) rfl rfl (by kernel_rfl) (by kernel_rfl) (by kernel_rfl) (fun _ _ _ h => h) (by rfl) ?_ (by assumption) ?_
          rotate_left
          · intro w' hSw
            go_split_ands
            go_simp
            try with_reducible rfl
          try simp only [Act.put, List.setIfInBounds_toArray, List.set_cons_zero, List.set_cons_succ]
          refine wpAnyH_done (by kernel_rfl) ?_ _
          go_wp2_with fail
          go_meet
          exact ⟨HDV.out, hW5⟩
      · have HDV : Hid (Value.bool true = .bool hd) := Lib.hid (by rw [HD.out]; simp [headB, hit, hv])
        clear hit
        refine wp_region_held_drew (S := fun w' => (∀ j, w'.cell? ⟨w.heap.size + 1, j, none⟩ = #[Value.slice Ax xl.length cx, .slice Ay xv.length cy, .int .i64 xver, .int .i64 xep, .bool xer][j]?) ∧ w'.cell? ⟨w.heap.size, 0, none⟩ = some (.slice (some ⟨xb, xo, none⟩) ents.length c) ∧ w'.cell? ⟨w.heap.size, 1, none⟩ = some (.int .i64 eps) ∧ Below W.heap.size W w') (by kernel_rfl) (hK.out _ (bel_drew (Below.refl _ _))) (fun hHeld => ?_)
        refine hw_t (i := 0) (d := some 13) (v := ?_) rfl rfl (by kernel_rfl) (by kernel_rfl) (by kernel_rfl) (fun _ _ _ h => h) (by rfl) ?_ (by assumption) ?_
        rotate_left
        · intro w' hSw
          go_split_ands
          go_simp
          try with_reducible rfl
        try simp only [Act.put, List.setIfInBounds_toArray, List.set_cons_zero, List.set_cons_succ]
        refine hw_t (i := 1) (d := some 14) (v := ?_) rfl rfl (by kernel_rfl) (by kernel_rfl) (by kernel_rfl) (fun _ _ _ h => h) (by rfl) ?_ (by assumption) ?_
        rotate_left
        · intro w' hSw
          go_split_ands
          go_simp
          try with_reducible rfl
        try simp only [Act.put, List.setIfInBounds_toArray, List.set_cons_zero, List.set_cons_succ]
        refine hw_t (i := 2) (d := some 15) (v := ?_) rfl rfl (by kernel_rfl) (by kernel_rfl) (by kernel_rfl) (fun _ _ _ h => h) (by rfl) ?_ (by assumption) ?_
        rotate_left
        · intro w' hSw
          go_split_ands
          go_simp
          try with_reducible rfl
        try simp only [Act.put, List.setIfInBounds_toArray, List.set_cons_zero, List.set_cons_succ]
        refine hw_t (i := 3) (d := some 16) (v := ?_) rfl rfl (by kernel_rfl) (by kernel_rfl) (by kernel_rfl) (fun _ _ _ h => h) (by rfl) ?_ (by assumption) ?_
        rotate_left
        · intro w' hSw
          go_split_ands
          go_simp
          try with_reducible rfl
        try simp only [Act.put, List.setIfInBounds_toArray, List.set_cons_zero, List.set_cons_succ]
        refine hw_t (i := 4) (d := some 17) (v := ?_) rfl rfl (by kernel_rfl) (by kernel_rfl) (by kernel_rfl) (fun _ _ _ h => h) (by rfl) ?_ (by assumption) ?_
        rotate_left
        · intro w' hSw
          go_split_ands
          go_simp
          try with_reducible rfl
        try simp only [Act.put, List.setIfInBounds_toArray, List.set_cons_zero, List.set_cons_succ]
        refine hw_t (i := 5) (d := some 18) (v := ?_) rfl rfl (by kernel_rfl) (by kernel_rfl) (by kernel_rfl) (fun _ _ _ h => h) (by rfl) ?_ (by assumption) ?_
        rotate_left
        · intro w' hSw
          go_split_ands
          go_simp
          try with_reducible rfl
        try simp only [Act.put, List.setIfInBounds_toArray, List.set_cons_zero, List.set_cons_succ]
        refine hw_t (i := 6) (d := some 19) (v := ?_) rfl rfl (by kernel_rfl) (by kernel_rfl) (by kernel_rfl) (fun _ _ _ h => h) (by rfl) ?_ (by assumption) ?_
        rotate_left
        · intro w' hSw
          go_split_ands
          go_simp
          try with_reducible rfl
        try simp only [Act.put, List.setIfInBounds_toArray, List.set_cons_zero, List.set_cons_succ]
        refine wpAnyH_ready (rs := [7]) (by kernel_rfl) (by simp) ?_
        refine AllReadyH.cons (o := _) rfl (fun K hK' => ?_) AllReadyH.nil
        go_simp
        refine (rc10_any Ax cx Ay cy xver xl xv _).mono ?_
        rw [HI.out]
        simp only [if_true]
        rintro e w3 ⟨rfl, hB3⟩
        have hW3 := keepB hB3 (bel_drew (Below.refl _ W))
        refine hK'.out _ _ (hK.out _ hW3) (fun hHeld2 => ?_)
        clear hHeld hK'
        try simp only [Act.put, List.setIfInBounds_toArray, List.set_cons_zero, List.set_cons_succ]
        refine hw_t (i := 8) (d := some 21) (v := ?_) rfl rfl (by kernel_rfl) (by kernel_rfl) (by kernel_rfl) (fun _ _ _ h => h) (by rfl) ?_ (by assumption) ?_
        rotate_left
        · intro w' hSw
          go_split_ands
          go_simp
          try with_reducible rfl
        try simp only [Act.put, List.setIfInBounds_toArray, List.set_cons_zero, List.set_cons_succ]
        refine hw_t (i := 9) (d := some 22) (v := ?_) rfl rfl (by kernel_rfl) (by kernel_rfl) (by kernel_rfl) (fun _ _ _ h => h) (by rfl) ?_ (by assumption) ?_
        rotate_left
        · intro w' hSw
          go_split_ands
          go_simp
          try with_reducible rfl
        try simp only [Act.put, List.setIfInBounds_toArray, List.set_cons_zero, List.set_cons_succ]
        refine hw_t (i := 10) (d := some 23) (v := ?_) rfl rfl (by kernel_rfl) (by kernel_rfl) (by kernel_rfl) (fun _ _ _ h => h) (by rfl) ?_ (by assumption) ?_
        rotate_left
        · intro w' hSw
          go_split_ands
          go_simp
          try with_reducible rfl
        try simp only [Act.put, List.setIfInBounds_toArray, List.set_cons_zero, List.set_cons_succ]
        refine hw_t (i := 11) (d := some 24) (v := ?_) rfl rfl (by kernel_rfl) (by kernel_rfl) (by kernel_rfl) (fun _ _ _ h => h) (by rfl) ?_ (by assumption) ?_
        rotate_left
        · intro w' hSw
          go_split_ands
          go_simp
          try with_reducible rfl
        try simp only [Act.put, List.setIfInBounds_toArray, List.set_cons_zero, List.set_cons_succ]
        refine hw_t (i := 12) (d := some 25) (v := ?_) rfl rfl (by kernel_rfl) (by kernel_rfl) (by kernel_rfl) (fun _ _ _ h => h) (by rfl) ?_ (by assumption) ?_
        rotate_left
        · intro w' hSw
          go_split_ands
          go_simp
          try with_reducible rfl
        try simp only [Act.put, List.setIfInBounds_toArray, List.set_cons_zero, List.set_cons_succ]
        refine hw_t (i := 13) (d := some 26) (v := ?_) rfl rfl (by kernel_rfl) (by kernel_rfl) (by kernel_rfl) (fun _ _ _ h => h) (by rfl) ?_ (by assumption) ?_
        rotate_left
        · intro w' hSw
          go_split_ands
          go_simp
          try with_reducible rfl
        try simp only [Act.put, List.setIfInBounds_toArray, List.set_cons_zero, List.set_cons_succ]
        refine hw_t (i := 14) (d := some 27) (v := ?_) rfl rfl (by kernel_rfl) (by kernel_rfl) (by kernel_rfl) (fun _ _ _ h => h) (by rfl) ?_ (by assumption) ?_
        rotate_left
        · intro w' hSw
          go_split_ands
          go_simp
          try with_reducible rfl
        try simp only [Act.put, List.setIfInBounds_toArray, List.set_cons_zero, List.set_cons_succ]
        refine hw_t (i := 15) (d := some 28) (v := ?_) rfl rfl (by kernel_rfl) (by kernel_rfl) (by kernel_rfl) (fun _ _ _ h => h) (by rfl) ?_ (by assumption) ?_
        rotate_left
        · intro w' hSw
          go_split_ands
          go_simp
          try with_reducible rfl
        try simp only [Act.put, List.setIfInBounds_toArray, List.set_cons_zero, List.set_cons_succ]
        refine wpAnyH_ready (rs := [16]) (by kernel_rfl) (by simp) ?_
        refine AllReadyH.cons (o := _) rfl (fun K hK' => ?_) AllReadyH.nil
        go_simp
        refine (many_any (some ⟨xb, xo, none⟩) c ⟨ents, eps⟩ Ax cx xl i _ (ents_after HE.out hW3) H1.out H2.out hn (Nat.le_of_lt hi) (rd_after HP.out hW3)).mono ?_
        rw [← HCN.out]
        rintro e w5 ⟨rfl, hB5⟩
        have hW5 := keepB hB5 hW3
        refine hK'.out _ _ (hK.out _ hW5) (fun hHeld3 => ?_)
        clear hHeld2 hK'
        try simp only [Act.put, List.setIfInBounds_toArray, List.set_cons_zero, List.set_cons_succ]
        refine hw_t (i := 17) (d := some 30) (v := ?_) rfl rfl (by kernel_rfl) (by kernel_rfl) (by kernel_rfl) (fun _ _ _ h => h) (by rfl) ?_ (by assumption) ?_
        rotate_left
        · intro w' hSw
          go_split_ands
          go_simp
          try with_reducible rfl
        try simp only [Act.put, List.setIfInBounds_toArray, List.set_cons_zero, List.set_cons_succ]
        refine hw_t (i := 18) (d := some 31) (v := ?_) rfl rfl (by kernel_rfl) (by kernel_rfl) (by kernel_rfl) (fun _ _ _ h => h) (by rfl) ?_ (by assumption) ?_
        rotate_left
        · intro w' hSw
          go_split_ands
          go_simp
          try with_reducible rfl
        try simp only [Act.put, List.setIfInBounds_toArray, List.set_cons_zero, List.set_cons_succ]
        refine hw_t (i := 19) (d := some 32) (v := ?_) rfl rfl (by kernel_rfl) (by kernel_rfl) (by kernel_rfl) (fun _ _ _ h => h) (by rfl) ?_ (by assumption) ?_
        rotate_left
        · intro w' hSw
          go_split_ands
          go_simp
          try with_reducible rfl
        try simp only [Act.put, List.setIfInBounds_toArray, List.set_cons_zero, List.set_cons_succ]
        refine hw_t (i := 20) (d := some 33) (v := ?_) rfl rfl (by kernel_rfl) (by kernel_rfl) (by kernel_rfl) (fun _ _ _ h => h) (by rfl) ?_ (by assumption) ?_
        rotate_left
        · intro w' hSw
          go_split_ands
          go_simp
          try with_reducible rfl
        try simp only [Act.put, List.setIfInBounds_toArray, List.set_cons_zero, List.set_cons_succ]
        refine hw_u (i := 21) (d := some 34) rfl rfl (by kernel_rfl) (by kernel_rfl) (by kernel_rfl) (fun _ _ _ h => h) (by rfl) (by assumption) ?_
        try simp only [Act.put, List.setIfInBounds_toArray, List.set_cons_zero, List.set_cons_succ]
        refine hw_u (i := 22) (d := some 35) rfl rfl (by kernel_rfl) (by kernel_rfl) (by kernel_rfl) (fun _ _ _ h => h) (by rfl) (by assumption) ?_
        try simp only [Act.put, List.setIfInBounds_toArray, List.set_cons_zero, List.set_cons_succ]
        refine hw_u (i := 23) (d := some 36) rfl rfl (by kernel_rfl) (by kernel_rfl) (by kernel_rfl) (fun _ _ _ h => h) (by rfl) (by assumption) ?_
        try simp only [Act.put, List.setIfInBounds_toArray, List.set_cons_zero, List.set_cons_succ]
        refine hw_t (i := 24) (d := some 37) (v := ?_) rfl rfl (by kernel_rfl) (by kernel_rfl) (by kernel_rfl) (fun _ _ _ h => h) (by rfl) ?_ (by assumption) ?_
        rotate_left
        · intro w' hSw
          go_split_ands
          go_simp
          try with_reducible rfl
        try simp only [Act.put, List.setIfInBounds_toArray, List.set_cons_zero, List.set_cons_succ]
        refine hw_t (i := 25) (d := some 38) (v := ?_) rfl rfl (by kernel_rfl) (by kernel_rfl) (by kernel_rfl) (fun _ _ _ h => h) (by rfl) ?_ (by assumption) ?_
        rotate_left
        · intro w' hSw
          go_split_ands
          go_simp
          try with_reducible rfl
        try simp only [Act.put, List.setIfInBounds_toArray, List.set_cons_zero, List.set_cons_succ]
        refine hw_u (i := 26) (d := some 39) rfl rfl (by kernel_rfl) (by kernel_rfl) (by kernel_rfl) (fun _ _ _ h => h) (by rfl) (by assumption) ?_
        try simp only [Act.put, List.setIfInBounds_toArray, List.set_cons_zero, List.set_cons_succ]
        refine hw_u (i := 27) (d := some 40) rfl rfl (by kernel_rfl) (by kernel_rfl) (by kernel_rfl) (fun _ _ _ h => h) (by rfl) (by assumption) ?_
        try simp only [Act.put, List.setIfInBounds_toArray, List.set_cons_zero, List.set_cons_succ]
        refine hw_u (i := 28) (d := some 41) rfl rfl (by kernel_rfl) (by kernel_rfl) (by kernel_rfl) (fun _ _ _ h => h) (by rfl) (by assumption) ?_
        try simp only [Act.put, List.setIfInBounds_toArray, List.set_cons_zero, List.set_cons_succ]
        refine hw_u (i := 29) (d := some 42) rfl rfl (by kernel_rfl) (by kernel_rfl) (by kernel_rfl) (fun _ _ _ h => h) (by rfl) (by assumption) ?_
        try simp only [Act.put, List.setIfInBounds_toArray, List.set_cons_zero, List.set_cons_succ]
        refine hw_u (i := 30) (d := some 43) rfl rfl (by kernel_rfl) (by kernel_rfl) (by kernel_rfl) (fun _ _ _ h => h) (by rfl) (by assumption) ?_
        try simp only [Act.put, List.setIfInBounds_toArray, List.set_cons_zero, List.set_cons_succ]
        refine hw_t (i := 31) (d := some 44) (v := ?_) rfl rfl (by kernel_rfl) (by kernel_rfl) (by kernel_rfl) (fun _ _ _ h => h) (by rfl) ?_ (by assumption) ?_
        rotate_left
        · intro w' hSw
          go_split_ands
          go_simp
          try with_reducible rfl
        try simp only [Act.put, List.setIfInBounds_toArray, List.set_cons_zero, List.set_cons_succ]
        refine wpAnyH_done (by kernel_rfl) ?_ _
        go_wp2_with fail
        go_meet
        exact ⟨HDV.out, hW5⟩
  case rest =>
    obtain ⟨rfl, hWx⟩ := hcut
    have c0 := (B0.out.below hWx B0.out.lt).cell
    have cX := (BX.out.below hWx BX.out.lt).cell
    cases hd
    · have hm := may_of (i := i) (xer := xer) (by rw [← HCN.out]; exact HD.out.symm)
      have HM := Lib.hid hm
      clear hm
      cases hez : (xep == 0)
      · have HEZ : Hid (¬ xep = 0) := Lib.hid (by simpa using hez)
        have HMO : Hid (mostN xep = 4) := Lib.hid (by unfold mostN; rw [if_neg HEZ.out])
        cases xer
        · skip
          cases hmo : decide (((4 : Nat) : Int) < (cntE ents xep : Int))
          · have hmo' : decide ((4 : Int) < (cntE ents xep : Int)) = false := hmo
            have hmo2 : decide (cntE ents xep ≤ mostN xep) = true := by simp only [decide_eq_false_iff_not] at hmo; rw [HMO.out, decide_eq_true_eq]; omega
            have HMO2 := Lib.hid hmo2
            clear hmo hmo2
            by_cases hi0 : i = 0
            · have hi0b : ((i : Int) == 0) = true := by simp [hi0]
              have HI0 := Lib.hid hi0
              clear hi0
              go_wp2_with (go_at_call 31; refine (alike_any (some ⟨xb, xo, none⟩) c ⟨ents, eps⟩ xep _ (ents_after HE.out hWx) H1.out H2.out hn).mono ?_; rintro e w7 ⟨rfl, hB7⟩; have hW7 := keepB hB7 hWx; have c07 := (B0.out.below hW7 B0.out.lt).cell; have cX7 := (BX.out.below hW7 BX.out.lt).cell; clear c0 cX)
              go_ret
              exact ⟨ret_mb (by rw [HR.out, HM.out, HMO2.out]; simp [HI0.out]), keepB hW7 HB.out⟩
            · have hi0b : ((i : Int) == 0) = false := by simp; omega
              have hsub : (i : Int) - 1 = ((i - 1 : Nat) : Int) := by omega
              have hj0 : (0 : Int) ≤ ((i - 1 : Nat) : Int) := by omega
              have hj1 : ((i - 1 : Nat) : Int) < (ents.length : Int) := by omega
              obtain ⟨yb, yo, y, yAl, ycl, yAv, ycv, hye, hyb, hy, y1, y2, y3, y4, y5, _⟩ := HE.out.at_ (k := i - 1) (by omega)
              injection hye with hye
              injection hye with hy1 hy2 _
              subst hy1 hy2
              obtain ⟨pv, hpv⟩ : ∃ pv, pv = y.ep := ⟨_, rfl⟩
              rw [← hpv] at y4
              have HPV : Hid (prevEp ents i = pv) := Lib.hid (by rw [hpv]; exact prev_of' hy)
              have HY4 := Lib.hid (fun (w' : World) (h : Below W.heap.size W w') => (h.cell (p := ⟨xb, xo + (i - 1) * 5 + 3, none⟩) hyb).trans y4)
              have HI0 := Lib.hid hi0
              clear y1 y2 y3 y4 y5 hy hpv hi0
              cases hp0 : (pv != 0)
              · go_wp2_with (go_at_call 31; refine (alike_any (some ⟨xb, xo, none⟩) c ⟨ents, eps⟩ xep _ (ents_after HE.out hWx) H1.out H2.out hn).mono ?_; rintro e w7 ⟨rfl, hB7⟩; have hW7 := keepB hB7 hWx; have c07 := (B0.out.below hW7 B0.out.lt).cell; have cX7 := (BX.out.below hW7 BX.out.lt).cell; have y47 := HY4.out _ hW7; clear c0 cX)
                go_ret
                exact ⟨ret_mb (by rw [HR.out, HM.out, HMO2.out]; simp [HI0.out, HEZ.out, HPV.out, (show pv = 0 by simpa using hp0)]), keepB hW7 HB.out⟩
              · cases hp1 : decide (pv ≤ xep)
                · go_wp2_with (go_at_call 31; refine (alike_any (some ⟨xb, xo, none⟩) c ⟨ents, eps⟩ xep _ (ents_after HE.out hWx) H1.out H2.out hn).mono ?_; rintro e w7 ⟨rfl, hB7⟩; have hW7 := keepB hB7 hWx; have c07 := (B0.out.below hW7 B0.out.lt).cell; have cX7 := (BX.out.below hW7 BX.out.lt).cell; have y47 := HY4.out _ hW7; clear c0 cX)
                  go_ret
                  exact ⟨ret_mb (by rw [HR.out, HM.out, HMO2.out]; simp [HI0.out, HEZ.out, HPV.out, (show ¬ pv ≤ xep by simpa using hp1)]), keepB hW7 HB.out⟩
                · go_wp2_with (go_at_call 31; refine (alike_any (some ⟨xb, xo, none⟩) c ⟨ents, eps⟩ xep _ (ents_after HE.out hWx) H1.out H2.out hn).mono ?_; rintro e w7 ⟨rfl, hB7⟩; have hW7 := keepB hB7 hWx; have c07 := (B0.out.below hW7 B0.out.lt).cell; have cX7 := (BX.out.below hW7 BX.out.lt).cell; have y47 := HY4.out _ hW7; clear c0 cX)
                  go_ret
                  exact ⟨ret_mb (by rw [HR.out, HM.out, HMO2.out]; simp [HPV.out, (show pv ≠ 0 by simpa using hp0), (show pv ≤ xep by simpa using hp1)]), keepB hW7 HB.out⟩
          · have hmo' : decide ((4 : Int) < (cntE ents xep : Int)) = true := hmo
            have hmo2 : decide (cntE ents xep ≤ mostN xep) = false := by simp only [decide_eq_true_eq] at hmo; rw [HMO.out, decide_eq_false_iff_not]; omega
            have HMO2 := Lib.hid hmo2
            clear hmo hmo2
            go_wp2_with (go_at_call 31; refine (alike_any (some ⟨xb, xo, none⟩) c ⟨ents, eps⟩ xep _ (ents_after HE.out hWx) H1.out H2.out hn).mono ?_; rintro e w7 ⟨rfl, hB7⟩; have hW7 := keepB hB7 hWx; have c07 := (B0.out.below hW7 B0.out.lt).cell; have cX7 := (BX.out.below hW7 BX.out.lt).cell; clear c0 cX)
            go_ret
            exact ⟨ret_mb (by rw [HR.out, HM.out, HMO2.out]; simp []), keepB hW7 HB.out⟩
        · cases hlz : decide ((0 : Int) < (xv.length : Int))
          · have HLZ : Hid (xv.length = 0) := Lib.hid (by simp at hlz; rw [hlz]; rfl)
            have hlz' : decide (0 < xv.length) = false := decide_eq_false (by have := HLZ.out; omega)
            cases hmo : decide (((4 : Nat) : Int) < (cntE ents xep : Int))
            · have hmo' : decide ((4 : Int) < (cntE ents xep : Int)) = false := hmo
              have hmo2 : decide (cntE ents xep ≤ mostN xep) = true := by simp only [decide_eq_false_iff_not] at hmo; rw [HMO.out, decide_eq_true_eq]; omega
              have HMO2 := Lib.hid hmo2
              clear hmo hmo2
              by_cases hi0 : i = 0
              · have hi0b : ((i : Int) == 0) = true := by simp [hi0]
                have HI0 := Lib.hid hi0
                clear hi0
                go_wp2_with (go_at_call 31; refine (alike_any (some ⟨xb, xo, none⟩) c ⟨ents, eps⟩ xep _ (ents_after HE.out hWx) H1.out H2.out hn).mono ?_; rintro e w7 ⟨rfl, hB7⟩; have hW7 := keepB hB7 hWx; have c07 := (B0.out.below hW7 B0.out.lt).cell; have cX7 := (BX.out.below hW7 BX.out.lt).cell; clear c0 cX)
                go_ret
                exact ⟨ret_mb (by rw [HR.out, HM.out, HMO2.out]; simp [HLZ.out, HEZ.out, HI0.out]), keepB hW7 HB.out⟩
              · have hi0b : ((i : Int) == 0) = false := by simp; omega
                have hsub : (i : Int) - 1 = ((i - 1 : Nat) : Int) := by omega
                have hj0 : (0 : Int) ≤ ((i - 1 : Nat) : Int) := by omega
                have hj1 : ((i - 1 : Nat) : Int) < (ents.length : Int) := by omega
                obtain ⟨yb, yo, y, yAl, ycl, yAv, ycv, hye, hyb, hy, y1, y2, y3, y4, y5, _⟩ := HE.out.at_ (k := i - 1) (by omega)
                injection hye with hye
                injection hye with hy1 hy2 _
                subst hy1 hy2
                obtain ⟨pv, hpv⟩ : ∃ pv, pv = y.ep := ⟨_, rfl⟩
                rw [← hpv] at y4
                have HPV : Hid (prevEp ents i = pv) := Lib.hid (by rw [hpv]; exact prev_of' hy)
                have HY4 := Lib.hid (fun (w' : World) (h : Below W.heap.size W w') => (h.cell (p := ⟨xb, xo + (i - 1) * 5 + 3, none⟩) hyb).trans y4)
                have HI0 := Lib.hid hi0
                clear y1 y2 y3 y4 y5 hy hpv hi0
                cases hp0 : (pv != 0)
                · go_wp2_with (go_at_call 31; refine (alike_any (some ⟨xb, xo, none⟩) c ⟨ents, eps⟩ xep _ (ents_after HE.out hWx) H1.out H2.out hn).mono ?_; rintro e w7 ⟨rfl, hB7⟩; have hW7 := keepB hB7 hWx; have c07 := (B0.out.below hW7 B0.out.lt).cell; have cX7 := (BX.out.below hW7 BX.out.lt).cell; have y47 := HY4.out _ hW7; clear c0 cX)
                  go_ret
                  exact ⟨ret_mb (by rw [HR.out, HM.out, HMO2.out]; simp [HLZ.out, HEZ.out, HI0.out, HEZ.out, HPV.out, (show pv = 0 by simpa using hp0)]), keepB hW7 HB.out⟩
                · cases hp1 : decide (pv ≤ xep)
                  · go_wp2_with (go_at_call 31; refine (alike_any (some ⟨xb, xo, none⟩) c ⟨ents, eps⟩ xep _ (ents_after HE.out hWx) H1.out H2.out hn).mono ?_; rintro e w7 ⟨rfl, hB7⟩; have hW7 := keepB hB7 hWx; have c07 := (B0.out.below hW7 B0.out.lt).cell; have cX7 := (BX.out.below hW7 BX.out.lt).cell; have y47 := HY4.out _ hW7; clear c0 cX)
                    go_ret
                    exact ⟨ret_mb (by rw [HR.out, HM.out, HMO2.out]; simp [HLZ.out, HEZ.out, HI0.out, HEZ.out, HPV.out, (show ¬ pv ≤ xep by simpa using hp1)]), keepB hW7 HB.out⟩
                  · go_wp2_with (go_at_call 31; refine (alike_any (some ⟨xb, xo, none⟩) c ⟨ents, eps⟩ xep _ (ents_after HE.out hWx) H1.out H2.out hn).mono ?_; rintro e w7 ⟨rfl, hB7⟩; have hW7 := keepB hB7 hWx; have c07 := (B0.out.below hW7 B0.out.lt).cell; have cX7 := (BX.out.below hW7 BX.out.lt).cell; have y47 := HY4.out _ hW7; clear c0 cX)
                    go_ret
                    exact ⟨ret_mb (by rw [HR.out, HM.out, HMO2.out]; simp [HLZ.out, HEZ.out, HPV.out, (show pv ≠ 0 by simpa using hp0), (show pv ≤ xep by simpa using hp1)]), keepB hW7 HB.out⟩
            · have hmo' : decide ((4 : Int) < (cntE ents xep : Int)) = true := hmo
              have hmo2 : decide (cntE ents xep ≤ mostN xep) = false := by simp only [decide_eq_true_eq] at hmo; rw [HMO.out, decide_eq_false_iff_not]; omega
              have HMO2 := Lib.hid hmo2
              clear hmo hmo2
              go_wp2_with (go_at_call 31; refine (alike_any (some ⟨xb, xo, none⟩) c ⟨ents, eps⟩ xep _ (ents_after HE.out hWx) H1.out H2.out hn).mono ?_; rintro e w7 ⟨rfl, hB7⟩; have hW7 := keepB hB7 hWx; have c07 := (B0.out.below hW7 B0.out.lt).cell; have cX7 := (BX.out.below hW7 BX.out.lt).cell; clear c0 cX)
              go_ret
              exact ⟨ret_mb (by rw [HR.out, HM.out, HMO2.out]; simp []), keepB hW7 HB.out⟩
          · have HLZ : Hid (0 < xv.length) := Lib.hid (by simp only [decide_eq_true_eq] at hlz; omega)
            have hlz' : decide (0 < xv.length) = true := decide_eq_true HLZ.out
            go_wp2
            go_ret
            exact ⟨ret_mb (by rw [HR.out, HM.out]; simp [HLZ.out]), keepB hWx HB.out⟩
      · have HEZ : Hid (xep = 0) := Lib.hid (by simpa using hez)
        have HMO : Hid (mostN xep = 8) := Lib.hid (by unfold mostN; rw [if_pos HEZ.out])
        cases xer
        · skip
          cases hmo : decide (((8 : Nat) : Int) < (cntE ents xep : Int))
          · have hmo' : decide ((8 : Int) < (cntE ents xep : Int)) = false := hmo
            have hmo2 : decide (cntE ents xep ≤ mostN xep) = true := by simp only [decide_eq_false_iff_not] at hmo; rw [HMO.out, decide_eq_true_eq]; omega
            have HMO2 := Lib.hid hmo2
            clear hmo hmo2
            by_cases hi0 : i = 0
            · have hi0b : ((i : Int) == 0) = true := by simp [hi0]
              have HI0 := Lib.hid hi0
              clear hi0
              go_wp2_with (go_at_call 31; refine (alike_any (some ⟨xb, xo, none⟩) c ⟨ents, eps⟩ xep _ (ents_after HE.out hWx) H1.out H2.out hn).mono ?_; rintro e w7 ⟨rfl, hB7⟩; have hW7 := keepB hB7 hWx; have c07 := (B0.out.below hW7 B0.out.lt).cell; have cX7 := (BX.out.below hW7 BX.out.lt).cell; clear c0 cX)
              go_ret
              exact ⟨ret_mb (by rw [HR.out, HM.out, HMO2.out]; simp [HI0.out]), keepB hW7 HB.out⟩
            · have hi0b : ((i : Int) == 0) = false := by simp; omega
              have hsub : (i : Int) - 1 = ((i - 1 : Nat) : Int) := by omega
              have hj0 : (0 : Int) ≤ ((i - 1 : Nat) : Int) := by omega
              have hj1 : ((i - 1 : Nat) : Int) < (ents.length : Int) := by omega
              obtain ⟨yb, yo, y, yAl, ycl, yAv, ycv, hye, hyb, hy, y1, y2, y3, y4, y5, _⟩ := HE.out.at_ (k := i - 1) (by omega)
              injection hye with hye
              injection hye with hy1 hy2 _
              subst hy1 hy2
              obtain ⟨pv, hpv⟩ : ∃ pv, pv = y.ep := ⟨_, rfl⟩
              rw [← hpv] at y4
              have HPV : Hid (prevEp ents i = pv) := Lib.hid (by rw [hpv]; exact prev_of' hy)
              have HY4 := Lib.hid (fun (w' : World) (h : Below W.heap.size W w') => (h.cell (p := ⟨xb, xo + (i - 1) * 5 + 3, none⟩) hyb).trans y4)
              have HI0 := Lib.hid hi0
              clear y1 y2 y3 y4 y5 hy hpv hi0
              go_wp2_with (go_at_call 31; refine (alike_any (some ⟨xb, xo, none⟩) c ⟨ents, eps⟩ xep _ (ents_after HE.out hWx) H1.out H2.out hn).mono ?_; rintro e w7 ⟨rfl, hB7⟩; have hW7 := keepB hB7 hWx; have c07 := (B0.out.below hW7 B0.out.lt).cell; have cX7 := (BX.out.below hW7 BX.out.lt).cell; have y47 := HY4.out _ hW7; clear c0 cX)
              go_ret
              exact ⟨ret_mb (by rw [HR.out, HM.out, HMO2.out]; simp [HEZ.out]), keepB hW7 HB.out⟩
          · have hmo' : decide ((8 : Int) < (cntE ents xep : Int)) = true := hmo
            have hmo2 : decide (cntE ents xep ≤ mostN xep) = false := by simp only [decide_eq_true_eq] at hmo; rw [HMO.out, decide_eq_false_iff_not]; omega
            have HMO2 := Lib.hid hmo2
            clear hmo hmo2
            go_wp2_with (go_at_call 31; refine (alike_any (some ⟨xb, xo, none⟩) c ⟨ents, eps⟩ xep _ (ents_after HE.out hWx) H1.out H2.out hn).mono ?_; rintro e w7 ⟨rfl, hB7⟩; have hW7 := keepB hB7 hWx; have c07 := (B0.out.below hW7 B0.out.lt).cell; have cX7 := (BX.out.below hW7 BX.out.lt).cell; clear c0 cX)
            go_ret
            exact ⟨ret_mb (by rw [HR.out, HM.out, HMO2.out]; simp []), keepB hW7 HB.out⟩
        · cases hlz : decide ((0 : Int) < (xv.length : Int))
          · have HLZ : Hid (xv.length = 0) := Lib.hid (by simp at hlz; rw [hlz]; rfl)
            have hlz' : decide (0 < xv.length) = false := decide_eq_false (by have := HLZ.out; omega)
            go_wp2
            go_ret
            exact ⟨ret_mb (by rw [HR.out, HM.out]; simp [HEZ.out]), keepB hWx HB.out⟩
          · have HLZ : Hid (0 < xv.length) := Lib.hid (by simp only [decide_eq_true_eq] at hlz; omega)
            have hlz' : decide (0 < xv.length) = true := decide_eq_true HLZ.out
            go_wp2
            go_ret
            exact ⟨ret_mb (by rw [HR.out, HM.out]; simp [HLZ.out]), keepB hWx HB.out⟩
    · have hm := may_head (i := i) (xer := xer) (ents := ents) (by rw [← HCN.out]; exact HD.out.symm)
      have HM := Lib.hid hm
      clear hm
      go_wp2
      go_ret
      exact ⟨ret_mb (by rw [HR.out, HM.out]), keepB hWx HB.out⟩
end Go.Proofs.Ytkiijbbcfbkecaa
