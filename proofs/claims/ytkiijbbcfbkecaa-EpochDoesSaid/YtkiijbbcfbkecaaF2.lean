/- epoch.fits. -/
import Derived.Test.YtkiijbbcfbkecaaF1
namespace Go.Proofs.Ytkiijbbcfbkecaa
open Go.RowKit
set_option linter.unusedVariables false

theorem ents_one {w : World} {A : Option Addr} {n B : Nat} {l : List Ent} (h : Ents w w.heap.size A n l) (o : Obj) (hB : w.heap.size ≤ B) : Ents (w.alloc o) B A n l := (h.below (below_one w o)).more hB
theorem rd_after {w w' : World} {A : Option Addr} {n : Nat} {xs : List Value} (h : Rd w w.heap.size A n xs) (hb : Below w.heap.size w w') : Rd w' w'.heap.size A n xs := (h.below hb).more hb.size

section
variable (Al : Option Addr) (cl : Nat) (Av : Option Addr) (cv : Nat) (lab val : List UInt8) (ver ep : Int) (er : Bool) (A : Option Addr) (n c : Nat) (ah : List Ent) (eps : Int) (w : World)

theorem fits_head (h : itemB lab val ver = false ∨ ep < 0 ∨ eps < ep) :
    Calls Try.prog 29 #[env Al lab.length cl Av val.length cv ver ep er, .slice A n c, .int .i64 eps] w fun e w' => e = .returned (.bool false) ∧ Below w.heap.size w w' := by
  cases hi : itemB lab val ver
  · go_enter Try.func29, Try.ntmps29
    go_wp2_with (first
      | (go_at_call 36; refine (item_any Al lab.length cl Av val.length cv ver ep er _).mono ?_; rintro e w1 ⟨rfl, hB1⟩)
      | (go_at_call 35; refine (ccheck_any Al cl Av cv ver lab val _).mono ?_; rw [hi]; rintro e w2 ⟨rfl, hB2⟩))
    go_ret
    exact ⟨rfl, keepB hB2 (keepB hB1 (below_one w _))⟩
  · have b0 := fun (w1 : World) (hB : Below (w.alloc (.cells #[.slice Al lab.length cl, .slice Av val.length cv, .int .i64 ver, .int .i64 ep, .bool er] 49)).heap.size (w.alloc (.cells #[.slice Al lab.length cl, .slice Av val.length cv, .int .i64 ver, .int .i64 ep, .bool er] 49)) w1) => (Blk.new w 49 #[.slice Al lab.length cl, .slice Av val.length cv, .int .i64 ver, .int .i64 ep, .bool er]).below hB (by simp)
    have HB := Lib.hid b0
    clear b0
    by_cases h0 : ep < 0
    · go_enter Try.func29, Try.ntmps29
      go_wp2_with (first
        | (go_at_call 36; refine (item_any Al lab.length cl Av val.length cv ver ep er _).mono ?_; rintro e w1 ⟨rfl, hB1⟩; have b1 := HB.out w1 hB1)
        | (go_at_call 35; refine (ccheck_any Al cl Av cv ver lab val _).mono ?_; rw [hi]; rintro e w2 ⟨rfl, hB2⟩; have cc2 := (b1.below hB2 b1.lt).cell))
      go_ret
      exact ⟨rfl, keepB hB2 (keepB hB1 (below_one w _))⟩
    · have h0' : 0 ≤ ep := by omega
      have h1 : eps < ep := by rcases h with h | h | h <;> first | (rw [hi] at h; cases h) | omega
      clear h h0
      go_enter Try.func29, Try.ntmps29
      go_wp2_with (first
        | (go_at_call 36; refine (item_any Al lab.length cl Av val.length cv ver ep er _).mono ?_; rintro e w1 ⟨rfl, hB1⟩; have b1 := HB.out w1 hB1)
        | (go_at_call 35; refine (ccheck_any Al cl Av cv ver lab val _).mono ?_; rw [hi]; rintro e w2 ⟨rfl, hB2⟩; have cc2 := (b1.below hB2 b1.lt).cell))
      go_ret
      exact ⟨rfl, keepB hB2 (keepB hB1 (below_one w _))⟩

theorem fits_er (hi : itemB lab val ver = true) (h0 : 0 ≤ ep) (h1 : ep ≤ eps) (her : er = true) (h : 0 < val.length ∨ ep = 0) :
    Calls Try.prog 29 #[env Al lab.length cl Av val.length cv ver ep er, .slice A n c, .int .i64 eps] w fun e w' => e = .returned (.bool false) ∧ Below w.heap.size w w' := by
  subst her
  have b0 := fun (w1 : World) (hB : Below (w.alloc (.cells #[.slice Al lab.length cl, .slice Av val.length cv, .int .i64 ver, .int .i64 ep, .bool true] 49)).heap.size (w.alloc (.cells #[.slice Al lab.length cl, .slice Av val.length cv, .int .i64 ver, .int .i64 ep, .bool true] 49)) w1) => (Blk.new w 49 #[.slice Al lab.length cl, .slice Av val.length cv, .int .i64 ver, .int .i64 ep, .bool true]).below hB (by simp)
  have HB := Lib.hid b0
  clear b0
  have n0 : decide (ep < 0) = false := by simp; omega
  have n1 : decide (eps < ep) = false := by simp; omega
  by_cases hv : 0 < val.length
  · have n2 : decide ((0 : Int) < (val.length : Int)) = true := by simp; omega
    clear h h0 h1
    go_enter Try.func29, Try.ntmps29
    go_wp2_with (first
      | (go_at_call 36; refine (item_any Al lab.length cl Av val.length cv ver ep true _).mono ?_; rintro e w1 ⟨rfl, hB1⟩; have b1 := HB.out w1 hB1)
      | (go_at_call 35; refine (ccheck_any Al cl Av cv ver lab val _).mono ?_; rw [hi]; rintro e w2 ⟨rfl, hB2⟩; have cc2 := (b1.below hB2 b1.lt).cell))
    go_ret
    exact ⟨rfl, keepB hB2 (keepB hB1 (below_one w _))⟩
  · have n2 : decide ((0 : Int) < (val.length : Int)) = false := decide_eq_false (by omega)
    have n2' : decide (0 < val.length) = false := decide_eq_false (by omega)
    have n3 : ep = 0 := by omega
    subst n3
    clear h h0 h1
    go_enter Try.func29, Try.ntmps29
    go_wp2_with (first
      | (go_at_call 36; refine (item_any Al lab.length cl Av val.length cv ver 0 true _).mono ?_; rintro e w1 ⟨rfl, hB1⟩; have b1 := HB.out w1 hB1)
      | (go_at_call 35; refine (ccheck_any Al cl Av cv ver lab val _).mono ?_; rw [hi]; rintro e w2 ⟨rfl, hB2⟩; have cc2 := (b1.below hB2 b1.lt).cell))
    go_ret
    exact ⟨rfl, keepB hB2 (keepB hB1 (below_one w _))⟩

/-- Behind the first k entries ahead. -/
structure FInv (w wr : World) (b : Array Value) (ah : List Ent) (lab : List UInt8) (e : Ent) (k : Nat) (v7 v8 : Value) : Prop where
  v7e : v7 = .int .i64 (cntL (ah.take k) lab : Int)
  v8e : v8 = .int .i64 (cntE (ah.take k) e.ep : Int)
  late : ∀ (j : Nat) (o : Ent), j < k → ah[j]? = some o → lateB e o = false
  bel : Below w.heap.size w wr
  blk : Blk wr w.heap.size 49 b

theorem eqB_t {l l' : List UInt8} (h : eqB l l' = true) : l = l' := by simpa [eqB] using h
theorem eqB_f {l l' : List UInt8} (h : eqB l l' = false) : ¬ l = l' := by simpa [eqB] using h
theorem FInv.next {w wr : World} {b : Array Value} {ah : List Ent} {lab : List UInt8} {e : Ent} {k : Nat} {x : Ent} (hx : ah[k]? = some x) (jl : ∀ (j : Nat) (o : Ent), j < k → ah[j]? = some o → lateB e o = false) (jB : Below w.heap.size w wr) (jb : Blk wr w.heap.size 49 b) (o : Obj) {t7 t8 : Int} (h7 : t7 = (cntL (ah.take k) lab : Int) + if x.label = lab then 1 else 0) (h8 : t8 = (cntE (ah.take k) e.ep : Int) + if x.ep = e.ep then 1 else 0) (hlate : lateB e x = false) :
    FInv w (wr.alloc o) b ah lab e (k + 1) (.int .i64 t7) (.int .i64 t8) := by
  refine ⟨?_, ?_, fun j o' hj ho => ?_, bel_alloc jB, jb.alloc o⟩
  · rw [take_snoc_of hx, cntL_snoc, h7]
    congr 1
    split <;> simp
  · rw [take_snoc_of hx, cntE_snoc, h8]
    congr 1
    split <;> simp
  · rcases Nat.lt_or_ge j k with h | h
    · exact jl j o' h ho
    · obtain rfl : j = k := by omega
      rw [hx] at ho
      injection ho with ho
      subst ho
      exact hlate
theorem late_no {e o : Ent} (h : ¬ 0 < e.ep ∨ (¬ o.ep = 0 ∧ o.ep ≤ e.ep)) : lateB e o = false := by
  unfold lateB
  rcases h with h | ⟨h1, h2⟩
  · simp [h]
  · have : ¬ e.ep < o.ep := by omega
    simp [h1, this]
theorem late_all {e : Ent} {ah : List Ent} {k : Nat} {x : Ent} (hx : ah[k]? = some x) (h : 0 < e.ep ∧ (x.ep = 0 ∨ e.ep < x.ep)) : ah.all (fun o => !lateB e o) = false := by
  rw [List.all_eq_false]
  refine ⟨x, List.mem_of_getElem? hx, ?_⟩
  rcases h with ⟨h1, h2 | h2⟩ <;> simp [lateB, h1, h2]
theorem late_none {e : Ent} {ah : List Ent} {n : Nat} (hn : ah.length = n) (h : ∀ (j : Nat) (o : Ent), j < n → ah[j]? = some o → lateB e o = false) : ah.all (fun o => !lateB e o) = true := by
  rw [List.all_eq_true]
  intro x hx
  obtain ⟨j, hj⟩ := List.getElem?_of_mem hx
  have := h j x (by rw [← hn]; exact (List.getElem?_eq_some_iff.1 hj).1) hj
  simp [this]

set_option maxRecDepth 100000 in
set_option maxHeartbeats 4000000 in
theorem fits_main (hi : itemB lab val ver = true) (h0 : 0 ≤ ep) (h1 : ep ≤ eps) (her : (er && (decide (0 < val.length) || decide (ep = 0))) = false) (hl : Rd w w.heap.size Al lab.length (bvs lab)) (hA : Ents w w.heap.size A n ah) (hn : n ≤ 1000) :
    Calls Try.prog 29 #[env Al lab.length cl Av val.length cv ver ep er, .slice A n c, .int .i64 eps] w fun e w' => e = .returned (.bool (fitsB ⟨lab, val, ver, ep, er⟩ ah eps)) ∧ Below w.heap.size w w' := by
  have hres : fitsB ⟨lab, val, ver, ep, er⟩ ah eps = (ah.all (fun o => !lateB ⟨lab, val, ver, ep, er⟩ o) && decide (ver = cntL ah lab + 1) && decide (cntE ah ep < mostN ep)) := by
    simp [fitsB, hi, h0, h1, her]
  have HRES := Lib.hid hres
  have b0 := fun (w1 : World) (hB : Below (w.alloc (.cells #[.slice Al lab.length cl, .slice Av val.length cv, .int .i64 ver, .int .i64 ep, .bool er] 49)).heap.size (w.alloc (.cells #[.slice Al lab.length cl, .slice Av val.length cv, .int .i64 ver, .int .i64 ep, .bool er] 49)) w1) => (Blk.new w 49 #[.slice Al lab.length cl, .slice Av val.length cv, .int .i64 ver, .int .i64 ep, .bool er]).below hB (by simp)
  have HB := Lib.hid b0
  have HL := Lib.hid hl
  have HA := Lib.hid hA
  have HN := Lib.hid hA.1
  clear b0 hl hA hres
  have n0 : decide (ep < 0) = false := decide_eq_false (by omega)
  have n1 : decide (eps < ep) = false := decide_eq_false (by omega)
  have n2 : er = true → decide ((0 : Int) < (val.length : Int)) = false ∧ (ep == 0) = false := fun e => by
    subst e
    simp at her
    exact ⟨decide_eq_false (by simp [her.1]), by simpa using her.2⟩
  cases er
  · skip
    go_enter Try.func29, Try.ntmps29
    go_wp2_with (first
      | (go_at_call 36; refine (item_any Al lab.length cl Av val.length cv ver ep false _).mono ?_; rintro e w1 ⟨rfl, hB1⟩; have b1 := HB.out w1 hB1)
      | (go_at_call 35; refine (ccheck_any Al cl Av cv ver lab val _).mono ?_; rw [hi]; rintro e w2 ⟨rfl, hB2⟩; have b2 := b1.below hB2 b1.lt; have cc2 := b2.cell))
    have hBw := keepB hB2 (keepB hB1 (below_one w (.cells #[.slice Al lab.length cl, .slice Av val.length cv, .int .i64 ver, .int .i64 ep, .bool false] 49)))
    have J0 : FInv w w2 #[.slice Al lab.length cl, .slice Av val.length cv, .int .i64 ver, .int .i64 ep, .bool false] ah lab ⟨lab, val, ver, ep, false⟩ 0 (.int .i64 0) (.int .i64 0) := ⟨rfl, rfl, fun j o hj => absurd hj (by omega), hBw, b2⟩
    clear b1 b2 cc2 hB1 hB2 hBw
    go_loopw [7, 8, 42] (fun v7 v8 i wr => ∃ k : Nat, k ≤ n ∧ i = .int .i64 k ∧ FInv w wr #[.slice Al lab.length cl, .slice Av val.length cv, .int .i64 ver, .int .i64 ep, .bool false] ah lab ⟨lab, val, ver, ep, false⟩ k v7 v8) (fun _ _ i _ => n - (intOf i).toNat)
    case atStart => exact ⟨0, Nat.zero_le _, rfl, J0⟩
    case round =>
      obtain ⟨k, hk, rfl, J⟩ := hrel
      obtain ⟨rfl, rfl, jl, jB, jb⟩ := J
      have hc1 := cntL_le (ah.take k) lab
      have hc2 := cntE_le (ah.take k) ep
      have hlt1 : (ah.take k).length ≤ k := List.length_take_le _ _
      have JL := Lib.hid jl
      have JB := Lib.hid jB
      have jc := jb.cell
      have jca := fun o => (jb.alloc o).cell
      have jsz := jb.lt
      have JBK := Lib.hid jb
      clear jl jB jb J0
      by_cases hlt : k < n
      · obtain ⟨xb, xo, ⟨xl, xv, xver, xep, xer⟩, Ax, cx, Ay, cy, rfl, hb, hx, c1, c2, c3, c4, c5, p1, p2, p3, q1, q2, q3⟩ := HA.out.at_ hlt
        have d1 := (JB.out.cell (p := ⟨xb, xo + k * 5, none⟩) hb).trans c1
        have d2 := (JB.out.cell (p := ⟨xb, xo + k * 5 + 1, none⟩) hb).trans c2
        have d3 := (JB.out.cell (p := ⟨xb, xo + k * 5 + 2, none⟩) hb).trans c3
        have d4 := (JB.out.cell (p := ⟨xb, xo + k * 5 + 3, none⟩) hb).trans c4
        have d5 := (JB.out.cell (p := ⟨xb, xo + k * 5 + 4, none⟩) hb).trans c5
        have X := Lib.hid hx
        have P3 := Lib.hid p3
        dsimp only at d1 d2 d3 d4 d5 p1 p2 q1 q2
        clear c1 c2 c3 c4 c5 hx p3 q3
        have hk0 : (0 : Int) ≤ (k : Int) := by omega
        have hk1 : (k : Int) < (n : Int) := by omega
        go_wp2_with (go_at_call 42; refine (equal_any Ax Al cx cl xl lab _ (P3.out.below (JB.out.trans ((below_one wr _).mono JB.out.size))) (HL.out.below (JB.out.trans ((below_one wr _).mono JB.out.size)))).mono ?_; rintro e w3 ⟨rfl, rfl⟩)
        all_goals first
          | (refine ⟨⟨k + 1, by omega, by go_num, FInv.next X.out JL.out JB.out JBK.out _ ?_ ?_ (late_no (by dsimp only; omega))⟩, by simp [intOf]; omega⟩
             · dsimp only
               first
                 | (rw [if_pos (eqB_t (by assumption))])
                 | (rw [if_neg (eqB_f (by assumption))]; omega)
             · dsimp only
               first
                 | (rw [if_pos (eq_of_beq (show (xep == ep) = true by assumption))])
                 | (rw [if_neg (beq_eq_false_iff_ne.1 (show (xep == ep) = false by assumption))]; omega))
          | (go_ret
             refine ⟨ret_b ?_, bel_alloc JB.out⟩
             rw [HRES.out, late_all X.out (by
               dsimp only
               first
                 | omega
                 | (have hd : (xep == 0) = true ∨ ep < xep := by assumption
                    rcases hd with hd | hd
                    · have := eq_of_beq hd; omega
                    · omega))]
             rfl)
      · obtain rfl : k = n := by omega
        have hall := late_none HN.out JL.out
        rw [List.take_of_length_le (by rw [HN.out]; exact Nat.le_refl _)]
        have HALL := Lib.hid hall
        clear hall hc1 hc2 hlt1
        have hc1 := cntL_le ah lab
        have hc2 := cntE_le ah ep
        have hc3 : ah.length ≤ 1000 := by rw [HN.out]; exact hn
        go_wp2
        all_goals
          go_ret
          refine ⟨ret_b ?_, JB.out⟩
          rw [HRES.out, HALL.out]
          first
            | (have hm : mostN ep = 8 := by unfold mostN; rw [if_pos (eq_of_beq (show (ep == 0) = true by assumption))])
            | (have hm : mostN ep = 4 := by unfold mostN; rw [if_neg (beq_eq_false_iff_ne.1 (show (ep == 0) = false by assumption))])
          rw [hm]
          first
            | (have hv : ver = (cntL ah lab : Int) + 1 := by assumption
               rw [decide_eq_true hv]
               simp
               omega)
            | (have hv : ¬ ver = (cntL ah lab : Int) + 1 := by assumption
               rw [decide_eq_false hv]
               simp)
  · obtain ⟨n3, n4⟩ := n2 rfl
    have n5 : decide (0 < val.length) = false := by simpa using n3
    clear n2 her
    go_enter Try.func29, Try.ntmps29
    go_wp2_with (first
      | (go_at_call 36; refine (item_any Al lab.length cl Av val.length cv ver ep true _).mono ?_; rintro e w1 ⟨rfl, hB1⟩; have b1 := HB.out w1 hB1)
      | (go_at_call 35; refine (ccheck_any Al cl Av cv ver lab val _).mono ?_; rw [hi]; rintro e w2 ⟨rfl, hB2⟩; have b2 := b1.below hB2 b1.lt; have cc2 := b2.cell))
    have hBw := keepB hB2 (keepB hB1 (below_one w (.cells #[.slice Al lab.length cl, .slice Av val.length cv, .int .i64 ver, .int .i64 ep, .bool true] 49)))
    have J0 : FInv w w2 #[.slice Al lab.length cl, .slice Av val.length cv, .int .i64 ver, .int .i64 ep, .bool true] ah lab ⟨lab, val, ver, ep, true⟩ 0 (.int .i64 0) (.int .i64 0) := ⟨rfl, rfl, fun j o hj => absurd hj (by omega), hBw, b2⟩
    clear b1 b2 cc2 hB1 hB2 hBw
    go_loopw [7, 8, 42] (fun v7 v8 i wr => ∃ k : Nat, k ≤ n ∧ i = .int .i64 k ∧ FInv w wr #[.slice Al lab.length cl, .slice Av val.length cv, .int .i64 ver, .int .i64 ep, .bool true] ah lab ⟨lab, val, ver, ep, true⟩ k v7 v8) (fun _ _ i _ => n - (intOf i).toNat)
    case atStart => exact ⟨0, Nat.zero_le _, rfl, J0⟩
    case round =>
      obtain ⟨k, hk, rfl, J⟩ := hrel
      obtain ⟨rfl, rfl, jl, jB, jb⟩ := J
      have hc1 := cntL_le (ah.take k) lab
      have hc2 := cntE_le (ah.take k) ep
      have hlt1 : (ah.take k).length ≤ k := List.length_take_le _ _
      have JL := Lib.hid jl
      have JB := Lib.hid jB
      have jc := jb.cell
      have jca := fun o => (jb.alloc o).cell
      have jsz := jb.lt
      have JBK := Lib.hid jb
      clear jl jB jb J0
      by_cases hlt : k < n
      · obtain ⟨xb, xo, ⟨xl, xv, xver, xep, xer⟩, Ax, cx, Ay, cy, rfl, hb, hx, c1, c2, c3, c4, c5, p1, p2, p3, q1, q2, q3⟩ := HA.out.at_ hlt
        have d1 := (JB.out.cell (p := ⟨xb, xo + k * 5, none⟩) hb).trans c1
        have d2 := (JB.out.cell (p := ⟨xb, xo + k * 5 + 1, none⟩) hb).trans c2
        have d3 := (JB.out.cell (p := ⟨xb, xo + k * 5 + 2, none⟩) hb).trans c3
        have d4 := (JB.out.cell (p := ⟨xb, xo + k * 5 + 3, none⟩) hb).trans c4
        have d5 := (JB.out.cell (p := ⟨xb, xo + k * 5 + 4, none⟩) hb).trans c5
        have X := Lib.hid hx
        have P3 := Lib.hid p3
        dsimp only at d1 d2 d3 d4 d5 p1 p2 q1 q2
        clear c1 c2 c3 c4 c5 hx p3 q3
        have hk0 : (0 : Int) ≤ (k : Int) := by omega
        have hk1 : (k : Int) < (n : Int) := by omega
        go_wp2_with (go_at_call 42; refine (equal_any Ax Al cx cl xl lab _ (P3.out.below (JB.out.trans ((below_one wr _).mono JB.out.size))) (HL.out.below (JB.out.trans ((below_one wr _).mono JB.out.size)))).mono ?_; rintro e w3 ⟨rfl, rfl⟩)
        all_goals first
          | (refine ⟨⟨k + 1, by omega, by go_num, FInv.next X.out JL.out JB.out JBK.out _ ?_ ?_ (late_no (by dsimp only; omega))⟩, by simp [intOf]; omega⟩
             · dsimp only
               first
                 | (rw [if_pos (eqB_t (by assumption))])
                 | (rw [if_neg (eqB_f (by assumption))]; omega)
             · dsimp only
               first
                 | (rw [if_pos (eq_of_beq (show (xep == ep) = true by assumption))])
                 | (rw [if_neg (beq_eq_false_iff_ne.1 (show (xep == ep) = false by assumption))]; omega))
          | (go_ret
             refine ⟨ret_b ?_, bel_alloc JB.out⟩
             rw [HRES.out, late_all X.out (by
               dsimp only
               first
                 | omega
                 | (have hd : (xep == 0) = true ∨ ep < xep := by assumption
                    rcases hd with hd | hd
                    · have := eq_of_beq hd; omega
                    · omega))]
             rfl)
      · obtain rfl : k = n := by omega
        have hall := late_none HN.out JL.out
        rw [List.take_of_length_le (by rw [HN.out]; exact Nat.le_refl _)]
        have HALL := Lib.hid hall
        clear hall hc1 hc2 hlt1
        have hc1 := cntL_le ah lab
        have hc2 := cntE_le ah ep
        have hc3 : ah.length ≤ 1000 := by rw [HN.out]; exact hn
        go_wp2
        all_goals
          go_ret
          refine ⟨ret_b ?_, JB.out⟩
          rw [HRES.out, HALL.out]
          first
            | (have hm : mostN ep = 8 := by unfold mostN; rw [if_pos (eq_of_beq (show (ep == 0) = true by assumption))])
            | (have hm : mostN ep = 4 := by unfold mostN; rw [if_neg (beq_eq_false_iff_ne.1 (show (ep == 0) = false by assumption))])
          rw [hm]
          first
            | (have hv : ver = (cntL ah lab : Int) + 1 := by assumption
               rw [decide_eq_true hv]
               simp
               omega)
            | (have hv : ¬ ver = (cntL ah lab : Int) + 1 := by assumption
               rw [decide_eq_false hv]
               simp)
theorem fits_any (hl : Rd w w.heap.size Al lab.length (bvs lab)) (hA : Ents w w.heap.size A n ah) (hn : n ≤ 1000) :
    Calls Try.prog 29 #[env Al lab.length cl Av val.length cv ver ep er, .slice A n c, .int .i64 eps] w fun e w' => e = .returned (.bool (fitsB ⟨lab, val, ver, ep, er⟩ ah eps)) ∧ Below w.heap.size w w' := by
  cases hi : itemB lab val ver
  · have hf : fitsB ⟨lab, val, ver, ep, er⟩ ah eps = false := by simp [fitsB, hi]
    rw [hf]
    exact fits_head Al cl Av cv lab val ver ep er A n c eps w (.inl hi)
  · by_cases h0 : 0 ≤ ep
    · by_cases h1 : ep ≤ eps
      · cases he : (er && (decide (0 < val.length) || decide (ep = 0)))
        · exact fits_main Al cl Av cv lab val ver ep er A n c ah eps w hi h0 h1 he hl hA hn
        · have hf : fitsB ⟨lab, val, ver, ep, er⟩ ah eps = false := by simp only [fitsB, hi, he]; simp
          rw [hf]
          simp only [Bool.and_eq_true, Bool.or_eq_true, decide_eq_true_eq] at he
          exact fits_er Al cl Av cv lab val ver ep er A n c eps w hi h0 h1 he.1 he.2
      · have hf : fitsB ⟨lab, val, ver, ep, er⟩ ah eps = false := by simp [fitsB, h1]
        rw [hf]
        exact fits_head Al cl Av cv lab val ver ep er A n c eps w (.inr (.inr (by omega)))
    · have hf : fitsB ⟨lab, val, ver, ep, er⟩ ah eps = false := by simp [fitsB, h0]
      rw [hf]
      exact fits_head Al cl Av cv lab val ver ep er A n c eps w (.inr (.inl (by omega)))
end
end Go.Proofs.Ytkiijbbcfbkecaa
