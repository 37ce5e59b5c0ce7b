/- epoch.Waiting. -/
import Derived.Test.YtkiijbbcfbkecaaF3
namespace Go.Proofs.Ytkiijbbcfbkecaa
open Go.RowKit
set_option linter.unusedVariables false

def waitN (k : Bk) : Int := if checkBk k then (cntE k.ents 0 : Int) else 0

set_option maxRecDepth 100000 in
set_option maxHeartbeats 1000000 in
theorem waiting_any (A : Option Addr) (c : Nat) (k : Bk) (w : World) (hA : Ents w w.heap.size A k.ents.length k.ents) (h1 : k.ents.length ≤ c) (h2 : c ≤ maxLen) :
    Calls Try.prog 17 #[bkv A k.ents.length c k.eps] w fun e w' => e = .returned (.int .i64 (waitN k)) ∧ Below w.heap.size w w' := by
  have D0 := Lib.hid (BBox.arg hA h1 h2)
  have H1 := Lib.hid h1
  have H2 := Lib.hid h2
  clear hA
  cases hck : checkBk k
  · have hw : waitN k = 0 := by simp [waitN, hck]
    rw [hw]
    have HC := Lib.hid hck
    clear hw hck
    obtain ⟨ents, eps⟩ := k
    dsimp only at D0 H1
    go_enter Try.func17, Try.ntmps17
    go_wp2_with (go_at_call 15; refine (check_any A c ⟨ents, eps⟩ _ D0.out.ents H1.out H2.out).mono ?_; rw [HC.out]; simp only [errOf]; rintro e w1 ⟨rfl, hB1⟩)
    go_ret
    exact ⟨rfl, keepB hB1 (below_one w _)⟩
  · have hw : waitN k = (cntE k.ents 0 : Int) := by simp [waitN, hck]
    rw [hw]
    have HC := Lib.hid hck
    have hlen : k.ents.length ≤ 72 := by simp [checkBk] at hck; omega
    clear hw hck
    obtain ⟨ents, eps⟩ := k
    dsimp only at D0 H1 hlen ⊢
    go_enter Try.func17, Try.ntmps17
    go_wp2_with (go_at_call 15; refine (check_any A c ⟨ents, eps⟩ _ D0.out.ents H1.out H2.out).mono ?_; rw [HC.out]; simp only [errOf]; rintro e w1 ⟨rfl, hB1⟩; have d1 := Lib.hid (D0.out.after hB1); obtain ⟨q0, q1⟩ := d1.out.cells)
    have HBW := Lib.hid (keepB hB1 (below_one w (.cells #[.slice A ents.length c, .int .i64 eps] 25)))
    clear hB1 D0 q0 q1
    go_loopw [3, 12] (fun v i wr => ∃ j : Nat, j ≤ ents.length ∧ i = .int .i64 j ∧ v = .int .i64 (cntE (ents.take j) 0 : Int) ∧ Below w1.heap.size w1 wr) (fun _ i _ => ents.length - (intOf i).toNat)
    case atStart => exact ⟨0, Nat.zero_le _, rfl, rfl, Below.refl _ _⟩
    case round =>
      obtain ⟨j, hj, rfl, rfl, hB⟩ := hrel
      have HB := Lib.hid hB
      have dw := Lib.hid (d1.out.after hB)
      obtain ⟨q0, q1⟩ := dw.out.cells
      dsimp only at q0 q1
      have hc2 := cntE_le (ents.take j) 0
      have hlt1 : (ents.take j).length ≤ j := List.length_take_le _ _
      clear hB
      by_cases hlt : j < ents.length
      · obtain ⟨xb, xo, ⟨xl, xv, xver, xep, xer⟩, Ax, cx, Ay, cy, rfl, hb, hx, c1, c2, c3, c4, c5, p1, p2, p3, s1, s2, s3⟩ := dw.out.ents.at_ hlt
        have hsn := cntE_snoc (ents.take j) ⟨xl, xv, xver, xep, xer⟩ 0
        rw [← take_snoc_of hx] at hsn
        have HSN := Lib.hid hsn
        dsimp only at c1 c2 c3 c4 c5 p1 p2 s1 s2
        clear hx p3 s3 hsn
        have hk0 : (0 : Int) ≤ (j : Int) := by omega
        have hk1 : (j : Int) < (ents.length : Int) := by omega
        go_wp2
        all_goals
          go_roundw
          case rel =>
            refine ⟨j + 1, by omega, by go_num, ?_, bel_alloc HB.out⟩
            rw [HSN.out]
            dsimp only
            first
              | (rw [if_pos (eq_of_beq (show (xep == 0) = true by assumption))]; go_num)
              | (rw [if_neg (beq_eq_false_iff_ne.1 (show (xep == 0) = false by assumption))]; go_num)
          case measure => simp [intOf]; omega
      · have hjn : ¬ (j : Int) < (ents.length : Int) := by omega
        have HJ : Hid (ents.take j = ents) := Lib.hid (List.take_of_length_le (by omega))
        go_wp2
        go_ret
        exact ⟨ret_i (by rw [HJ.out]), keepB HB.out HBW.out⟩
end Go.Proofs.Ytkiijbbcfbkecaa
