/- What Publish does to its book. -/
import Derived.Test.YtkiijbbcfbkecaaJ1
import Derived.Test.YtkiijbbcfbkecaaP4
import Derived.Test.YtkiijbbcfbkecaaM4
import Derived.Deep.RegionHeld3
import Derived.Deep.RegionLaw
namespace Go.Proofs.Ytkiijbbcfbkecaa
open Go.RowKit
set_option linter.unusedVariables false

theorem keepPub {W w' : World} {bc Bl : Nat} {x y l : Value} (hb : Blk W bc 25 #[x, y]) (hl : Blk W Bl 26 #[l]) (h : Below W.heap.size W w') :
    w'.cell? ⟨bc, 0, none⟩ = some x ∧ w'.cell? ⟨bc, 1, none⟩ = some y ∧ w'.cell? ⟨Bl, 0, none⟩ = some l ∧ Below W.heap.size W w' :=
  ⟨(hb.below h hb.lt).cell 0, (hb.below h hb.lt).cell 1, (hl.below h hl.lt).cell 0, h⟩

theorem keepPub2 {W w' : World} {Bl Bv : Nat} {l v : Value} (hl : Blk W Bl 26 #[l]) (hv : Blk W Bv 26 #[v]) (h : Below W.heap.size W w') :
    w'.cell? ⟨Bl, 0, none⟩ = some l ∧ w'.cell? ⟨Bv, 0, none⟩ = some v ∧ Below W.heap.size W w' :=
  ⟨(hl.below h hl.lt).cell 0, (hv.below h hv.lt).cell 0, h⟩

theorem rd_new5 (w : World) (a b c d e : Value) (t : TypeId) : Rd (w.alloc (.cells #[a, b, c, d, e] t)) (w.heap.size + 1) (some ⟨w.heap.size, 0, none⟩) (1 * 5) [a, b, c, d, e] :=
  ⟨rfl, fun _ => ⟨_, rfl, Nat.lt_succ_self _, fun j u hu => by
    rw [Addr.add_lit, Nat.zero_add, (Blk.new w t #[a, b, c, d, e]).cell j]
    rw [← hu]
    simp⟩⟩
theorem ent_one (Al : Option Addr) (nl cl : Nat) (Av : Option Addr) (nv cv : Nat) (ver ep : Int) (er : Bool) : ∀ u ∈ [Value.slice Al nl cl, .slice Av nv cv, .int .i64 ver, .int .i64 ep, .bool er], u.oneCell' = true := by
  intro u hu
  simp at hu
  rcases hu with rfl | rfl | rfl | rfl | rfl <;> rfl

theorem pub_close {W w0 w7 w9 : World} {base bc z n0 g c' c9 cx cy : Nat} {A' A9 Ax Ay : Option Addr} {xs : List Value} {ents : List Ent} {eps : Int} {x : Ent} {o : Obj} (hn0 : n0 ≤ base) (hbase : base ≤ bc) (hz : z < base) (hsb : base ≤ W.heap.size) (hBE : Below n0 w0 W) (hW7 : Below W.heap.size W w7)
    (o7 : OwnE w7 base (.slice A' ents.length c') xs ents) (x7 : EB w7 W.heap.size g Ax cx Ay cy x) (z7 : Blk w7 z 25 zbk)
    (hown9 : w9.ownsRow base 49 5 (.slice A9 (ents.length + 1) c9) (ents.length + 1) (xs ++ [.slice Ax x.label.length cx, .slice Ay x.value.length cy, .int .i64 x.ver, .int .i64 x.ep, .bool x.er])) (hgr9 : (w7.alloc o).grownBy w9 (Value.slice A' ents.length c').ownBlock)
    (b9 : Blk w9 bc 25 #[.slice A' ents.length c', .int .i64 eps]) :
    DoRet (Below n0 w0) base bc z ⟨ents ++ [x], eps⟩ 0 W (.returned (.int .i64 0)) (w9.setCell ⟨bc, 0, none⟩ (.slice A9 (ents.length + 1) c9)) := by
  have hl : (ents ++ [x]).length = ents.length + 1 := by simp
  have p9 := (o7.alloc o).push (x := x) (own_less (x7.lab.alloc o) hsb) (own_less (x7.val.alloc o) hsb) hown9 hgr9
  refine ⟨rfl, fun h => absurd rfl h, fun _ => ⟨A9, c9, xs ++ [.slice Ax x.label.length cx, .slice Ay x.value.length cy, .int .i64 x.ver, .int .i64 x.ep, .bool x.er], ?_, ?_, ?_, ?_⟩⟩
  · have := b9.set_ 0 (.slice A9 (ents.length + 1) c9)
    simpa [hl] using this
  · dsimp only
    rw [hl]
    exact p9.grownB (grown_setCell w9 ⟨bc, 0, none⟩ _) b9 (by decide) (by decide)
  · have h1 : Below n0 w0 (w7.alloc o) := (hBE.trans (hW7.mono (by omega))).alloc (Nat.le_trans (Nat.le_trans hn0 hsb) hW7.size) o
    have h2 := h1.grown hgr9 (by simp; have := hBE.size; have := hW7.size; omega) (fun k e => by obtain ⟨_, _, h, _⟩ := own_block o7.outer e; omega)
    exact h2.setCell (p := ⟨bc, 0, none⟩) (Nat.le_trans hn0 hbase) _
  · exact (blk_far hgr9 (z7.alloc o) (o7.outer.alloc o) (by decide)).far (p := ⟨bc, 0, none⟩) (by simp; omega) _

set_option maxRecDepth 100000 in
set_option maxHeartbeats 2000000 in
theorem pub1_any (W w0 : World) (base bc z Bl Bv n0 : Nat) (A' : Option Addr) (c' : Nat) (xs : List Value) (k : Bk) (Al : Option Addr) (cl : Nat) (lab : List UInt8) (Av : Option Addr) (cv : Nat) (val : List UInt8)
    (hck : checkBk k = true) (hn0 : n0 ≤ base) (hbase : base ≤ bc) (hz : z < base) (bz : Blk W z 25 zbk) (bb : Blk W bc 25 #[.slice A' k.ents.length c', .int .i64 k.eps]) (hO : OwnE W base (.slice A' k.ents.length c') xs k.ents)
    (bl : Blk W Bl 26 #[.slice Al lab.length cl]) (bv : Blk W Bv 26 #[.slice Av val.length cv]) (hL : Rd W W.heap.size Al lab.length (bvs lab)) (hV : Rd W W.heap.size Av val.length (bvs val)) (h1 : lab.length ≤ 1000) (h2 : val.length ≤ 1000) (hBe : Below n0 w0 W) :
    Calls Try.prog 33 #[.pointer (some ⟨bc, 0, none⟩), .pointer (some ⟨Bl, 0, none⟩), .pointer (some ⟨Bv, 0, none⟩)] W (DoRet (Below n0 w0) base bc z (pubK k lab val) (pubE k lab val) W) := by
  obtain ⟨i2, hi2, hz2, hs2, hb2⟩ := info_parts infoTE
  have hlat := latA_ok hck lab
  have HLAT := Lib.hid hlat
  have HE := Lib.hid hO.ents
  obtain ⟨A'', c'', hV', hc1, hc2⟩ := hO.form
  simp only [Value.slice.injEq] at hV'
  obtain ⟨rfl, _, rfl⟩ := hV'
  have HC := Lib.hid hck
  have hlen : k.ents.length ≤ 72 := by simp [checkBk] at hck; omega
  obtain ⟨ents, eps⟩ := k
  dsimp only at bb hO HLAT HE hlen hc1 ⊢
  have hcnt := cntL_le ents lab
  obtain ⟨pe, hpe⟩ : ∃ pe, pe = pubE ⟨ents, eps⟩ lab val := ⟨_, rfl⟩
  obtain ⟨pk, hpk⟩ : ∃ pk, pk = pubK ⟨ents, eps⟩ lab val := ⟨_, rfl⟩
  rw [← hpe, ← hpk]
  have HPE := Lib.hid hpe
  have HPK := Lib.hid hpk
  have HSB := Lib.hid (show base ≤ W.heap.size by have := bb.lt; omega)
  clear hpe hpk
  have HO := Lib.hid hO
  have BB := Lib.hid bb
  have BL := Lib.hid bl
  have BV := Lib.hid bv
  have BZ := Lib.hid bz
  have HLb := Lib.hid hL
  have HVb := Lib.hid hV
  have HBE := Lib.hid hBe
  have hK := Lib.hid (fun w' => keepPub (w' := w') BB.out BL.out)
  have k0 := keepPub bb bl (Below.refl _ _)
  obtain ⟨k0, k1, k2, k3⟩ := k0
  clear hck bz bb hO bl bv hL hV hBe hlat k3
  go_enter Try.func33, Try.ntmps33
  go_wp2
  go_region_held3 (fun w' => w'.cell? ⟨bc, 0, none⟩ = some (.slice A' ents.length c') ∧ w'.cell? ⟨bc, 1, none⟩ = some (.int .i64 eps) ∧ w'.cell? ⟨Bl, 0, none⟩ = some (.slice Al lab.length cl) ∧ Below W.heap.size W w')
    ((refine hK.out _ ?_; simp only [Below.refl, bel_drew, *]))
    (first
      | (go_at_call 11; go_split_ands; refine (latest_any A' c' ⟨ents, eps⟩ Al cl lab _ (ents_after HE.out (by with_reducible assumption)) hc1 hc2 (rd_after HLb.out (by with_reducible assumption))).mono ?_; rw [HLAT.out]; rintro e w1 ⟨rfl, hB1⟩; have hW1 := keepB hB1 (W := W) (by with_reducible assumption)))
  go_wp2_with fail
  have L1 := Lib.hid (rd_after HLb.out hW1)
  have V1 := Lib.hid (rd_after HVb.out hW1)
  have BL1 := Lib.hid (BL.out.below hW1 BL.out.lt)
  have BV1 := Lib.hid (BV.out.below hW1 BV.out.lt)
  have HW1 := Lib.hid hW1
  have sW1 := hW1.size
  clear k0 k1 k2 hB1 hW1 hK
  go_cut [7] (fun s7 wx => ∃ (g : Nat) (Ax : Option Addr) (cx : Nat) (Ay : Option Addr) (cy : Nat), s7 = .pointer (some ⟨g, 0, none⟩) ∧ EB wx W.heap.size g Ax cx Ay cy ⟨lab, val, (cntL ents lab : Int) + 1, 0, false⟩ ∧ Below w1.heap.size w1 wx)
  case first =>
    have hK2 := Lib.hid (fun w' => keepPub2 (w' := w') BL1.out BV1.out)
    have hs1 : IntKind.i64.wrap ((cntL ents lab : Int) + 1) = (cntL ents lab : Int) + 1 := IntWalk.i64_in _ (by omega)
    go_region_held3 (fun w' => w'.cell? ⟨Bl, 0, none⟩ = some (.slice Al lab.length cl) ∧ w'.cell? ⟨Bv, 0, none⟩ = some (.slice Av val.length cv) ∧ Below w1.heap.size w1 w')
      ((refine hK2.out _ ?_; first | simp only [Below.refl, bel_drew, bel_alloc, *] | exact bel_set (bel_set (bel_set (bel_set (bel_set hW4 (by omega)) (by omega)) (by omega)) (by omega)) (by omega)))
      (first
        | (go_at_call_of 34 (Value.slice Al lab.length cl); go_split_ands; refine (clone_any Al cl lab _ (rd_after L1.out (by with_reducible assumption)) (Nat.le_refl _) (by omega)).mono ?_; rintro e w3 ⟨A3, c3, rfl, ho3, hB3⟩; have ho3 := own_less ho3 (Below.size (B := w1.heap.size) (w := w1) (by with_reducible assumption)); have hW3 := keepB hB3 (W := w1) (by with_reducible assumption); have s3 := hW3.size; have hWl : w1.heap.size ≤ w1.heap.size := Nat.le_refl _; try (have z3 : Blk w3 w1.heap.size 49 zbe := (by with_reducible exact blk_new_d hB3)))
        | (go_at_call_of 34 (Value.slice Av val.length cv); go_split_ands; refine (clone_any Av cv val _ (rd_after V1.out (by with_reducible assumption)) (Nat.le_refl _) (by omega)).mono ?_; rintro e w4 ⟨A4, c4, rfl, ho4, hB4⟩; have ho4 := own_less ho4 (Below.size (B := w1.heap.size) (w := w1) (by with_reducible assumption)); have hW4 := keepB hB4 (W := w1) (by with_reducible assumption); have s4 := hW4.size; have ho3' := (by first | with_reducible exact own_b hB4 ho3 | with_reducible exact own_ba hB4 ho3 : w4.ownsRow _ 5 1 (.slice A3 lab.length c3) lab.length (bvs lab)); (first | (have z4 : Blk w4 w1.heap.size 49 zbe := (by with_reducible exact blk_b hB4 z3)) | (have z4 : Blk w4 w3.heap.size 49 zbe := (by with_reducible exact blk_new hB4)) | skip); try (have cz := z4.cell; have fz := z4.frozen)))
    all_goals (go_wp2_with fail; go_meet)
    · exact ⟨_, _, _, _, _, rfl, EB.new (x := ⟨lab, val, (cntL ents lab : Int) + 1, 0, false⟩) ho3' ho4 sW1 sW1, bel_alloc hW4⟩
    all_goals exact ⟨_, _, _, _, _, rfl, EB.store (x := ⟨lab, val, (cntL ents lab : Int) + 1, 0, false⟩) z4 ho3' ho4 sW1 sW1, bel_set (bel_set (bel_set (bel_set (bel_set hW4 (by omega)) (by omega)) (by omega)) (by omega)) (by omega)⟩
  case rest =>
    obtain ⟨g, Ax, cx, Ay, cy, rfl, hE, hBx⟩ := hcut
    have cE := hE.blk.cell
    have HX := Lib.hid hE
    have HBX := Lib.hid (keepB hBx HW1.out)
    clear hBx hE
    cases hit : itemB lab val ((cntL ents lab : Int) + 1)
    · have hpe : pe = 100 := by rw [HPE.out]; simp [pubE, HC.out, hit]
      have HP := Lib.hid hpe
      have HIT := Lib.hid hit
      clear hpe hit
      go_wp2_with (first
        | (go_at_call 36; refine (item_any Ax lab.length cx Ay val.length cy _ _ _ _).mono ?_; rintro e w5 ⟨rfl, hB5⟩; have hW5 := keepB hB5 HBX.out; clear cE)
        | (go_at_call 35; refine (ccheck_any Ax cx Ay cy _ lab val _).mono ?_; rw [HIT.out]; simp only [Bool.false_eq_true, if_false]; rintro e w6 ⟨rfl, hB6⟩; have hW6 := keepB hB6 hW5))
      go_ret
      exact ⟨ret_i HP.out.symm, fun _ => hW6.mono HSB.out, fun h => absurd (HP.out.symm.trans h) (by decide)⟩
    · have HIT := Lib.hid hit
      have hwait := waitN_ok HC.out
      dsimp only at hwait
      have HWT := Lib.hid hwait
      clear hit hwait
      by_cases h8 : cntE ents 0 < 8
      · have hpe : pe = 0 := by rw [HPE.out]; simp [pubE, HC.out, HIT.out, h8]
        have hpk : pk = ⟨ents ++ [⟨lab, val, (cntL ents lab : Int) + 1, 0, false⟩], eps⟩ := by rw [HPK.out]; unfold pubK; rw [if_pos (by rw [← HPE.out]; exact hpe)]; rfl
        have HP := Lib.hid hpe
        have HPK2 := Lib.hid hpk
        have hge : decide ((8 : Int) ≤ (cntE ents 0 : Int)) = false := by simp; omega
        clear hpe hpk h8
        go_wp2_with (first
          | (go_at_call 36; refine (item_any Ax lab.length cx Ay val.length cy _ _ _ _).mono ?_; rintro e w5 ⟨rfl, hB5⟩; have X5 := Lib.hid (HX.out.below hB5); have hW5 := keepB hB5 HBX.out; clear cE)
          | (go_at_call 35; refine (ccheck_any Ax cx Ay cy _ lab val _).mono ?_; rw [HIT.out]; simp only [if_true]; rintro e w6 ⟨rfl, hB6⟩; have X6 := Lib.hid (X5.out.below hB6); have hW6 := keepB hB6 hW5; have cB6 := (BB.out.below hW6 BB.out.lt).cell)
          | (go_at_call 17; refine (waiting_any A' c' ⟨ents, eps⟩ _ (ents_after HE.out hW6) hc1 hc2).mono ?_; rw [HWT.out]; rintro e w7 ⟨rfl, hB7⟩; have hX7 := X6.out.below hB7; have hW7 := keepB hB7 hW6; clear cB6))
        have b7 := BB.out.below hW7 BB.out.lt
        have z7 := BZ.out.below hW7 BZ.out.lt
        have o7 := HO.out.below hW7
        have cE := hX7.blk.cell
        have cB := b7.cell
        have X7 := Lib.hid hX7
        have B7 := Lib.hid b7
        have Z7 := Lib.hid z7
        have O7 := Lib.hid o7
        have HW7 := Lib.hid hW7
        have sW7 := hW7.size
        clear hX7 b7 z7 o7 hW7 hW6 hW5 hB5 hB6 hB7
        have hre := rd_new5 w7 (.slice Ax lab.length cx) (.slice Ay val.length cy) (.int .i64 ((cntL ents lab : Int) + 1)) (.int .i64 0) (.bool false) 49
        have RE := Lib.hid hre
        have m1 : ents.length + 1 ≤ maxLen := by unfold maxLen; omega
        have m2 : (ents.length + 1) * 72 ≤ 140737488355328 := by omega
        have m3 : base ≤ (w7.alloc (.cells #[.slice Ax lab.length cx, .slice Ay val.length cy, .int .i64 ((cntL ents lab : Int) + 1), .int .i64 0, .bool false] 49)).heap.size := by simp; have := HSB.out; omega
        have M1 := Lib.hid m1
        have M2 := Lib.hid m2
        have M3 := Lib.hid m3
        have O8 := Lib.hid (O7.out.outer.alloc (.cells #[.slice Ax lab.length cx, .slice Ay val.length cy, .int .i64 ((cntL ents lab : Int) + 1), .int .i64 0, .bool false] 49))
        have B8 := Lib.hid (B7.out.alloc (.cells #[.slice Ax lab.length cx, .slice Ay val.length cy, .int .i64 ((cntL ents lab : Int) + 1), .int .i64 0, .bool false] 49))
        have cBa := B8.out.cell
        clear hre m1 m2 m3
        go_region_law (refine step_append_any _ (by rfl) (.tmp 36) (.tmp 38) 23 (by rfl) base 49 i2 (.agg zbe) 5 72 Try.underlying23 hi2 hz2 hs2 hb2 rfl (by omega) (.slice A' ents.length c') ents.length xs (by rfl) O8.out (w7.heap.size + 1) (some ⟨w7.heap.size, 0, none⟩) 1 1 [.slice Ax lab.length cx, .slice Ay val.length cy, .int .i64 ((cntL ents lab : Int) + 1), .int .i64 0, .bool false] (by rfl) RE.out (ent_one _ _ _ _ _ _ _ _ _) M1.out M2.out M3.out ?_; intro v9 w9 hown9 hgr9 hat9; obtain ⟨A9, c9, rfl, q1, q2⟩ := own_form hown9; have b9 := blk_far hgr9 B8.out O8.out (by decide); have c9' := b9.cell; have f9 := b9.frozen)
        all_goals
          go_wp2
          go_ret
          rw [HP.out, HPK2.out]
          exact pub_close hn0 hbase hz HSB.out HBE.out HW7.out O7.out X7.out Z7.out hown9 ⟨hgr9.os, hgr9.tape, hgr9.output, hgr9.size, hgr9.block⟩ b9
      · have hpe : pe = 191 := by rw [HPE.out]; simp [pubE, HC.out, HIT.out, h8]
        have HP := Lib.hid hpe
        have hge : decide ((8 : Int) ≤ (cntE ents 0 : Int)) = true := by simp; omega
        clear hpe h8
        go_wp2_with (first
          | (go_at_call 36; refine (item_any Ax lab.length cx Ay val.length cy _ _ _ _).mono ?_; rintro e w5 ⟨rfl, hB5⟩; have hW5 := keepB hB5 HBX.out; clear cE)
          | (go_at_call 35; refine (ccheck_any Ax cx Ay cy _ lab val _).mono ?_; rw [HIT.out]; simp only [if_true]; rintro e w6 ⟨rfl, hB6⟩; have hW6 := keepB hB6 hW5; have cB6 := (BB.out.below hW6 BB.out.lt).cell)
          | (go_at_call 17; refine (waiting_any A' c' ⟨ents, eps⟩ _ (ents_after HE.out hW6) hc1 hc2).mono ?_; rw [HWT.out]; rintro e w7 ⟨rfl, hB7⟩; have hW7 := keepB hB7 hW6; clear cB6))
        go_ret
        exact ⟨ret_i HP.out.symm, fun _ => hW7.mono HSB.out, fun h => absurd (HP.out.symm.trans h) (by decide)⟩
end Go.Proofs.Ytkiijbbcfbkecaa
