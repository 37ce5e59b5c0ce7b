/- The document's counts. -/
import Derived.Test.YtgeofnemlijbgaaDoorVY1
import Derived.Test.YtgeofnemlijbgaaDoorVE7
import Derived.Deep.RegionHeldLaw
namespace Go.Proofs.YtgeofnemlijbgaaDoor
open Go.RowKit
set_option linter.unusedVariables false
set_option linter.unusedSimpArgs false

/-- What counts tells of a head. -/
def cntV (s : List UInt8) (room : Int) : Value :=
  if seqOf s ≤ 4611686018427387903 ∧ (lenOf s : Int) ≤ room then .tuple #[.int .i64 (seqOf s : Int), .int .i64 (lenOf s : Int), .bool (decide (headL (seqOf s) (lenOf s) = s))] else .tuple #[.int .i64 0, .int .i64 0, .bool false]
theorem conv_s0 {l : List UInt8} {S : ByteArray} (hS : S = ⟨l.toArray⟩) (w' : World) (B : Nat) (A' : Option Addr) (c' : Nat) (h : Rd w' B A' l.length (bvs l)) : (convert 25 9 (.slice A' l.length c')).run Tryd.prog w' = .ok (.string S) w' := by
  rw [hS]; exact conv_rd h c'
theorem keep_s {W w' : World} {As : Option Addr} {cs : Nat} {s : List UInt8} {S : ByteArray} (hS : S = ⟨s.toArray⟩) (hR : Rd W W.heap.size As s.length (bvs s)) (h : Below W.heap.size W w') :
    (convert 25 9 (.slice As s.length cs)).run Tryd.prog w' = .ok (.string S) w' ∧ Below W.heap.size W w' := ⟨conv_s0 hS w' _ As cs (hR.below h), h⟩

set_option maxRecDepth 100000 in
set_option maxHeartbeats 4000000 in
theorem rcounts_any (A : Option Addr) (c : Nat) (d : Dsk) (k : Nat) (hk : k ≤ 1) (w : World) (hd : Bss w w.heap.size A d.secs.length d.secs) (h1 : d.secs.length ≤ c) (h2 : c ≤ maxLen) (hck : checkB d.secs = true) :
    Calls Tryd.prog 52 #[dvD A c d, .int .i64 (k : Int)] w fun e w' => e = .returned (cntV (secN d (atD d k)) (roomN d.secs.length)) ∧ Below w.heap.size w w' := by
  obtain ⟨hh1, hh2, hh3, hh4⟩ := halfD_eq hck
  have hlen := (checkB_len hck).2
  have hat : atD d k < d.secs.length := by have := atD_le hck k; omega
  have hrm : 0 ≤ roomN d.secs.length ∧ roomN d.secs.length ≤ 1000000 := by have := halfN_rng d.secs.length; unfold roomN; omega
  have har := areaN_at hck hk
  have D0 := Lib.hid (DBox.arg hd h1 h2)
  have B0 := Lib.hid (below_one w (.cells #[.slice A d.secs.length c, .int .i64 d.left, .int .i64 d.torn, .bool d.off, .int .i64 d.done] 24))
  obtain ⟨q0, q1, q2, q3, q4⟩ := D0.out.cells
  obtain ⟨hr0, hr1⟩ := hrm
  obtain ⟨rm, hrm⟩ : ∃ r, r = roomN d.secs.length := ⟨_, rfl⟩
  have hs0 := sec_at hat
  obtain ⟨s, hs⟩ : ∃ s, s = secN d (atD d k) := ⟨_, rfl⟩
  rw [← hs] at hs0 ⊢
  have h64 := checkB_at hck hs0
  rw [← hrm] at hr0 hr1 ⊢
  obtain ⟨x, hx⟩ : ∃ x, x = atD d k := ⟨_, rfl⟩
  rw [← hx] at har hs0 hat
  have HAR := Lib.hid har
  have HRM := Lib.hid hrm
  have HS0 := Lib.hid hs0
  have HCK := Lib.hid hck
  obtain ⟨NN, hNN⟩ : ∃ N : Nat, N = d.secs.length := ⟨_, rfl⟩
  have HNN := Lib.hid hNN
  obtain ⟨n, hn⟩ : ∃ n, n = seqOf s := ⟨_, rfl⟩
  obtain ⟨m, hm⟩ : ∃ m, m = lenOf s := ⟨_, rfl⟩
  have hnb : n < 18446744073709551616 := by have := num8_lt ((s.drop 1).take 8); rw [List.length_take, List.length_drop] at this; rw [hn]; unfold seqOf; have e : min 8 (s.length - 1) = 8 := by omega
                                            rw [e] at this; exact this
  have hmb : m < 18446744073709551616 := by have := num8_lt ((s.drop 9).take 8); rw [List.length_take, List.length_drop] at this; rw [hm]; unfold lenOf; have e : min 8 (s.length - 9) = 8 := by omega
                                            rw [e] at this; exact this
  have hcv : cntV s rm = if n ≤ 4611686018427387903 ∧ (m : Int) ≤ rm then .tuple #[.int .i64 (n : Int), .int .i64 (m : Int), .bool (decide (headL n m = s))] else .tuple #[.int .i64 0, .int .i64 0, .bool false] := by rw [hn, hm]; rfl
  rw [hcv]
  have HN := Lib.hid (show num8 ((s.drop 1).take 8) = n from hn.symm)
  have HM := Lib.hid (show num8 ((s.drop 9).take 8) = m from hm.symm)
  have H64 := Lib.hid h64
  have HD := Lib.hid hd
  obtain ⟨S, hS⟩ : ∃ S : ByteArray, S = ⟨s.toArray⟩ := ⟨_, rfl⟩
  obtain ⟨Z, hZ⟩ : ∃ S : ByteArray, S = ⟨(headL n m).toArray⟩ := ⟨_, rfl⟩
  have HSS := Lib.hid hS
  have HZ := Lib.hid hZ
  have hwr : IntKind.u64.wrap rm = rm := wrapU (by omega) (by omega)
  have hwr2 : rm % 18446744073709551616 = rm := by omega
  have hwn : IntKind.i64.wrap (x : Int) = (x : Int) := IntWalk.i64_in _ (by omega)
  have hk0 : (0 : Int) ≤ (x : Int) := by omega
  have hk1 : (x : Int) < (d.secs.length : Int) := by omega
  clear hd h1 h2 hck hh1 hh2 hh3 hh4 hlen har hs hrm hx hcv hn hm hS hZ hNN hs0 hat hk
  obtain ⟨ad, As, cs, s', rfl, hb, hs', hc', hlc, hcm, hR⟩ := HD.out.at_ (k := x) (by omega)
  rw [HS0.out] at hs'
  injection hs' with hs'
  subst hs'
  have h64' := H64.out
  obtain ⟨A1, c1, hr1', hR1, hl1, hc1⟩ := rest_any (t := 1) hR (by omega) (by omega) hlc
  obtain ⟨A9, c9, hr9', hR9, hl9, hc9⟩ := rest_any (t := 9) hR (by omega) (by omega) hlc
  have hrest1 : ∀ w' : World, (Instr.slice 25 (.slice As s.length cs) (some (.int .i64 1)) none none).run Tryd.prog w' = .ok (.slice A1 (s.drop 1).length c1) w' := hr1'
  have hrest9 : ∀ w' : World, (Instr.slice 25 (.slice As s.length cs) (some (.int .i64 9)) none none).run Tryd.prog w' = .ok (.slice A9 (s.drop 9).length c9) w' := hr9'
  have h63 : (s.drop 1).length = 63 := by rw [List.length_drop]; omega
  have h55 : (s.drop 9).length = 55 := by rw [List.length_drop]; omega
  have HR := Lib.hid hR
  have HR1 := Lib.hid hR1
  have HR9 := Lib.hid hR9
  have HL1 := Lib.hid hl1
  have HL9 := Lib.hid hl9
  have H63 := Lib.hid h63
  have H55 := Lib.hid h55
  have HB := Lib.hid hb
  have HC := Lib.hid hc'
  clear hr1' hr9' hR hR1 hR9 hl1 hl9 hc1 hc9 hlc hcm hb hc' h64 h64' h63 h55
  obtain ⟨s1, hs1⟩ : ∃ z, z = s.drop 1 := ⟨_, rfl⟩
  obtain ⟨s9, hs9⟩ : ∃ z, z = s.drop 9 := ⟨_, rfl⟩
  rw [← hs1] at hrest1 HR1 HL1 H63 HN
  rw [← hs9] at hrest9 HR9 HL9 H55 HM
  clear hs1 hs9
  have fin : ∀ v, v = (if n ≤ 4611686018427387903 ∧ (m : Int) ≤ rm then Value.tuple #[.int .i64 (n : Int), .int .i64 (m : Int), .bool (decide (headL n m = s))] else .tuple #[.int .i64 0, .int .i64 0, .bool false]) →
      Calls Tryd.prog 52 #[dvD (some ad) c d, .int .i64 (k : Int)] w fun e w' => e = .returned v ∧ Below w.heap.size w w' := by
    intro v hv
    by_cases hn62 : n ≤ 4611686018427387903
    · have t1 : decide ((4611686018427387904 : Int) ≤ (n : Int)) = false := decide_eq_false (by omega)
      have t1' : ¬ (4611686018427387904 : Int) ≤ (n : Int) := by omega
      have wn : IntKind.i64.wrap (n : Int) = (n : Int) := IntWalk.i64_in _ (by omega)
      by_cases hmr : (m : Int) ≤ rm
      · have t2 : decide (rm < (m : Int)) = false := decide_eq_false (by omega)
        have t2' : ¬ rm < (m : Int) := by omega
        have wm : IntKind.i64.wrap (m : Int) = (m : Int) := IntWalk.i64_in _ (by omega)
        rw [if_pos ⟨hn62, hmr⟩] at hv
        by_cases he : headL n m = s
        · rw [decide_eq_true he] at hv
          subst hv
          obtain rfl : Z = S := by rw [HZ.out, HSS.out, he]
          have u1 : (Z.toList == Z.toList) = true := by simp
          clear he
          go_enter Tryd.func52, Tryd.ntmps52
          go_upto_region 7 with (first
            | (go_at_call 19; refine (rarea_any _ _ _).mono ?_; rw [HAR.out]; rintro e w1 ⟨rfl, hB1⟩; have D1 := Lib.hid (D0.out.after hB1); have B1 := Lib.hid (keepB hB1 B0.out); clear hB1 q0 q1 q2 q3 q4; obtain ⟨q0, q1, q2, q3, q4⟩ := D1.out.cells; have hcc := (B1.out.cell (p := ad.add x) (by rw [block_of_add]; exact HB.out)).trans HC.out)
            | (go_at_call_of 65 (Value.slice A1 s1.length c1); refine (rtake8_any A1 c1 s1 _ (HR1.out.below B1.out) B1.out.size (by have := H63.out; omega) (by have := H63.out; omega) HL1.out).mono ?_; rw [HN.out]; rintro e w2 ⟨v2, rfl, hO2, hB2⟩; have D2 := Lib.hid (D1.out.after hB2); have B2 := Lib.hid (keepB hB2 B1.out); clear hO2 hB2 hcc q0 q1 q2 q3 q4; obtain ⟨q0, q1, q2, q3, q4⟩ := D2.out.cells; have hcc := (B2.out.cell (p := ad.add x) (by rw [block_of_add]; exact HB.out)).trans HC.out)
            | (go_at_call_of 65 (Value.slice A9 s9.length c9); refine (rtake8_any A9 c9 s9 _ (HR9.out.below B2.out) B2.out.size (by have := H55.out; omega) (by have := H55.out; omega) HL9.out).mono ?_; rw [HM.out]; rintro e w3 ⟨v3, rfl, hO3, hB3⟩; have D3 := Lib.hid (D2.out.after hB3); have B3 := Lib.hid (keepB hB3 B2.out); clear hO3 hB3 hcc q0 q1 q2 q3 q4; obtain ⟨q0, q1, q2, q3, q4⟩ := D3.out.cells)
            | (go_at_call 25; refine (rroom_any _ _).mono ?_; rw [← HRM.out]; rintro e w4 ⟨rfl, hB4⟩; have B4 := Lib.hid (keepB hB4 B3.out); clear hB4 q0 q1 q2 q3 q4))
          have KS := Lib.hid (fun w' => keep_s (w' := w') (cs := cs) HSS.out ((HR.out.below B4.out).more B4.out.size))
          go_region_held_law (fun w' => (convert 25 9 (.slice As s.length cs)).run Tryd.prog w' = .ok (.string Z) w' ∧ Below w4.heap.size w4 w')
            ((refine KS.out _ ?_; simp only [Below.refl, bel_dr, *]))
            (first | (go_at_call 43; go_split_ands; refine (rhead_any n m _ (by omega) (by omega)).mono ?_; rintro e w5 ⟨v5, rfl, hO5, hB5⟩; obtain ⟨A5, c5, hv5, hc5, hcm5⟩ := own_form hO5; dsimp only [id] at *; subst hv5; have hW5 := keepB hB5 (W := w4) (by with_reducible assumption); have cv5 := conv_s0 HZ.out _ _ A5 c5 (own_rd hO5)))
          go_wp2
          refine bodyPost_ret (by simp [results, Tryd.results52, go_sem]; rfl) rfl ?_
          exact ⟨rfl, keepB hW5 B4.out⟩
        · rw [decide_eq_false he] at hv
          subst hv
          obtain ⟨u1, u2⟩ : (Z.toList == S.toList) = false ∧ ¬ Z.toList = S.toList := by
            have h1 : ¬ Z.toList = S.toList := by rw [HZ.out, HSS.out]; simpa using he
            exact ⟨by simpa using h1, h1⟩
          clear he
          go_enter Tryd.func52, Tryd.ntmps52
          go_upto_region 7 with (first
            | (go_at_call 19; refine (rarea_any _ _ _).mono ?_; rw [HAR.out]; rintro e w1 ⟨rfl, hB1⟩; have D1 := Lib.hid (D0.out.after hB1); have B1 := Lib.hid (keepB hB1 B0.out); clear hB1 q0 q1 q2 q3 q4; obtain ⟨q0, q1, q2, q3, q4⟩ := D1.out.cells; have hcc := (B1.out.cell (p := ad.add x) (by rw [block_of_add]; exact HB.out)).trans HC.out)
            | (go_at_call_of 65 (Value.slice A1 s1.length c1); refine (rtake8_any A1 c1 s1 _ (HR1.out.below B1.out) B1.out.size (by have := H63.out; omega) (by have := H63.out; omega) HL1.out).mono ?_; rw [HN.out]; rintro e w2 ⟨v2, rfl, hO2, hB2⟩; have D2 := Lib.hid (D1.out.after hB2); have B2 := Lib.hid (keepB hB2 B1.out); clear hO2 hB2 hcc q0 q1 q2 q3 q4; obtain ⟨q0, q1, q2, q3, q4⟩ := D2.out.cells; have hcc := (B2.out.cell (p := ad.add x) (by rw [block_of_add]; exact HB.out)).trans HC.out)
            | (go_at_call_of 65 (Value.slice A9 s9.length c9); refine (rtake8_any A9 c9 s9 _ (HR9.out.below B2.out) B2.out.size (by have := H55.out; omega) (by have := H55.out; omega) HL9.out).mono ?_; rw [HM.out]; rintro e w3 ⟨v3, rfl, hO3, hB3⟩; have D3 := Lib.hid (D2.out.after hB3); have B3 := Lib.hid (keepB hB3 B2.out); clear hO3 hB3 hcc q0 q1 q2 q3 q4; obtain ⟨q0, q1, q2, q3, q4⟩ := D3.out.cells)
            | (go_at_call 25; refine (rroom_any _ _).mono ?_; rw [← HRM.out]; rintro e w4 ⟨rfl, hB4⟩; have B4 := Lib.hid (keepB hB4 B3.out); clear hB4 q0 q1 q2 q3 q4))
          have KS := Lib.hid (fun w' => keep_s (w' := w') (cs := cs) HSS.out ((HR.out.below B4.out).more B4.out.size))
          go_region_held_law (fun w' => (convert 25 9 (.slice As s.length cs)).run Tryd.prog w' = .ok (.string S) w' ∧ Below w4.heap.size w4 w')
            ((refine KS.out _ ?_; simp only [Below.refl, bel_dr, *]))
            (first | (go_at_call 43; go_split_ands; refine (rhead_any n m _ (by omega) (by omega)).mono ?_; rintro e w5 ⟨v5, rfl, hO5, hB5⟩; obtain ⟨A5, c5, hv5, hc5, hcm5⟩ := own_form hO5; dsimp only [id] at *; subst hv5; have hW5 := keepB hB5 (W := w4) (by with_reducible assumption); have cv5 := conv_s0 HZ.out _ _ A5 c5 (own_rd hO5)))
          go_wp2
          refine bodyPost_ret (by simp [results, Tryd.results52, go_sem]; rfl) rfl ?_
          exact ⟨rfl, keepB hW5 B4.out⟩
      · rw [if_neg (fun h => hmr h.2)] at hv
        subst hv
        have t2 : decide (rm < (m : Int)) = true := decide_eq_true (by omega)
        have t2' : rm < (m : Int) := by omega
        go_enter Tryd.func52, Tryd.ntmps52
        go_wp2_with (first
          | (go_at_call 19; refine (rarea_any _ _ _).mono ?_; rw [HAR.out]; rintro e w1 ⟨rfl, hB1⟩; have D1 := Lib.hid (D0.out.after hB1); have B1 := Lib.hid (keepB hB1 B0.out); clear hB1 q0 q1 q2 q3 q4; obtain ⟨q0, q1, q2, q3, q4⟩ := D1.out.cells; have hcc := (B1.out.cell (p := ad.add x) (by rw [block_of_add]; exact HB.out)).trans HC.out)
          | (go_at_call_of 65 (Value.slice A1 s1.length c1); refine (rtake8_any A1 c1 s1 _ (HR1.out.below B1.out) B1.out.size (by have := H63.out; omega) (by have := H63.out; omega) HL1.out).mono ?_; rw [HN.out]; rintro e w2 ⟨v2, rfl, hO2, hB2⟩; have D2 := Lib.hid (D1.out.after hB2); have B2 := Lib.hid (keepB hB2 B1.out); clear hO2 hB2 hcc q0 q1 q2 q3 q4; obtain ⟨q0, q1, q2, q3, q4⟩ := D2.out.cells; have hcc := (B2.out.cell (p := ad.add x) (by rw [block_of_add]; exact HB.out)).trans HC.out)
          | (go_at_call_of 65 (Value.slice A9 s9.length c9); refine (rtake8_any A9 c9 s9 _ (HR9.out.below B2.out) B2.out.size (by have := H55.out; omega) (by have := H55.out; omega) HL9.out).mono ?_; rw [HM.out]; rintro e w3 ⟨v3, rfl, hO3, hB3⟩; have D3 := Lib.hid (D2.out.after hB3); have B3 := Lib.hid (keepB hB3 B2.out); clear hO3 hB3 hcc q0 q1 q2 q3 q4; obtain ⟨q0, q1, q2, q3, q4⟩ := D3.out.cells)
          | (go_at_call 25; refine (rroom_any _ _).mono ?_; rw [← HRM.out]; rintro e w4 ⟨rfl, hB4⟩; have B4 := Lib.hid (keepB hB4 B3.out); clear hB4 q0 q1 q2 q3 q4))
        refine bodyPost_ret (by simp [results, Tryd.results52, go_sem]; rfl) rfl ?_
        exact ⟨rfl, B4.out⟩
    · rw [if_neg (fun h => hn62 h.1)] at hv
      subst hv
      have t1 : decide ((4611686018427387904 : Int) ≤ (n : Int)) = true := decide_eq_true (by omega)
      have t1' : (4611686018427387904 : Int) ≤ (n : Int) := by omega
      go_enter Tryd.func52, Tryd.ntmps52
      go_wp2_with (first
        | (go_at_call 19; refine (rarea_any _ _ _).mono ?_; rw [HAR.out]; rintro e w1 ⟨rfl, hB1⟩; have D1 := Lib.hid (D0.out.after hB1); have B1 := Lib.hid (keepB hB1 B0.out); clear hB1 q0 q1 q2 q3 q4; obtain ⟨q0, q1, q2, q3, q4⟩ := D1.out.cells; have hcc := (B1.out.cell (p := ad.add x) (by rw [block_of_add]; exact HB.out)).trans HC.out)
        | (go_at_call_of 65 (Value.slice A1 s1.length c1); refine (rtake8_any A1 c1 s1 _ (HR1.out.below B1.out) B1.out.size (by have := H63.out; omega) (by have := H63.out; omega) HL1.out).mono ?_; rw [HN.out]; rintro e w2 ⟨v2, rfl, hO2, hB2⟩; have D2 := Lib.hid (D1.out.after hB2); have B2 := Lib.hid (keepB hB2 B1.out); clear hO2 hB2 hcc q0 q1 q2 q3 q4; obtain ⟨q0, q1, q2, q3, q4⟩ := D2.out.cells; have hcc := (B2.out.cell (p := ad.add x) (by rw [block_of_add]; exact HB.out)).trans HC.out)
        | (go_at_call_of 65 (Value.slice A9 s9.length c9); refine (rtake8_any A9 c9 s9 _ (HR9.out.below B2.out) B2.out.size (by have := H55.out; omega) (by have := H55.out; omega) HL9.out).mono ?_; rw [HM.out]; rintro e w3 ⟨v3, rfl, hO3, hB3⟩; have D3 := Lib.hid (D2.out.after hB3); have B3 := Lib.hid (keepB hB3 B2.out); clear hO3 hB3 hcc q0 q1 q2 q3 q4; obtain ⟨q0, q1, q2, q3, q4⟩ := D3.out.cells)
        | (go_at_call 25; refine (rroom_any _ _).mono ?_; rw [← HRM.out]; rintro e w4 ⟨rfl, hB4⟩; have B4 := Lib.hid (keepB hB4 B3.out); clear hB4 q0 q1 q2 q3 q4))
      refine bodyPost_ret (by simp [results, Tryd.results52, go_sem]; rfl) rfl ?_
      exact ⟨rfl, B3.out⟩
  exact fin _ rfl
end Go.Proofs.YtgeofnemlijbgaaDoor
