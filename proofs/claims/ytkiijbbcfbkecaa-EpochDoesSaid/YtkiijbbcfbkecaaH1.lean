/- The document's item check; its many, alike. -/
import Derived.Test.YtkiijbbcfbkecaaF3
import Derived.Deep.QuietTactic
import Derived.BigQuiet
namespace Go.Proofs.Ytkiijbbcfbkecaa
open Go.RowKit
set_option linter.unusedVariables false

theorem rc10_any (Al : Option Addr) (cl : Nat) (Av : Option Addr) (cv : Nat) (ver : Int) (lab val : List UInt8) (w : World) :
    Calls Try.prog 38 #[.agg #[.slice Al lab.length cl, .int .i64 ver, .slice Av val.length cv]] w fun e w' => e = .returned (.int .i64 (if itemB lab val ver then 0 else 100)) ∧ Below w.heap.size w w' := by
  by_cases h1 : lab.length ≤ 32
  · by_cases h2 : val.length ≤ 64
    · by_cases h3 : 1 ≤ ver
      · by_cases h4 : ver ≤ 2147483647
        · skip
          have g0 : decide ((32 : Int) < (lab.length : Int)) = false := by simp; omega
          have g1 : decide ((64 : Int) < (val.length : Int)) = false := by simp; omega
          have g2 : decide (ver < 1) = false := by simp; omega
          have g3 : decide ((2147483648 : Int) ≤ ver) = false := by simp; omega
          have hi : itemB lab val ver = true := by simp [itemB]; omega
          rw [hi]
          clear hi
          go_enter Try.func38, Try.ntmps38
          go_wp2
          go_ret
          exact ⟨rfl, below_one w _⟩
        · skip
          have g0 : decide ((32 : Int) < (lab.length : Int)) = false := by simp; omega
          have g1 : decide ((64 : Int) < (val.length : Int)) = false := by simp; omega
          have g2 : decide (ver < 1) = false := by simp; omega
          have g3 : decide ((2147483648 : Int) ≤ ver) = true := by simp; omega
          have hi : itemB lab val ver = false := by simp [itemB]; omega
          rw [hi]
          clear hi
          go_enter Try.func38, Try.ntmps38
          go_wp2
          go_ret
          exact ⟨rfl, below_one w _⟩
      · skip
        have g0 : decide ((32 : Int) < (lab.length : Int)) = false := by simp; omega
        have g1 : decide ((64 : Int) < (val.length : Int)) = false := by simp; omega
        have g2 : decide (ver < 1) = true := by simp; omega
        have hi : itemB lab val ver = false := by simp [itemB]; omega
        rw [hi]
        clear hi
        go_enter Try.func38, Try.ntmps38
        go_wp2
        go_ret
        exact ⟨rfl, below_one w _⟩
    · skip
      have g0 : decide ((32 : Int) < (lab.length : Int)) = false := by simp; omega
      have g1 : decide ((64 : Int) < (val.length : Int)) = true := by simp; omega
      have hi : itemB lab val ver = false := by simp [itemB]; omega
      rw [hi]
      clear hi
      go_enter Try.func38, Try.ntmps38
      go_wp2
      go_ret
      exact ⟨rfl, below_one w _⟩
  · skip
    have g0 : decide ((32 : Int) < (lab.length : Int)) = true := by simp; omega
    have hi : itemB lab val ver = false := by simp [itemB]; omega
    rw [hi]
    clear hi
    go_enter Try.func38, Try.ntmps38
    go_wp2
    go_ret
    exact ⟨rfl, below_one w _⟩

theorem below_drewN {w0 w : World} (h : Below w0.heap.size w0 w) (n : Nat) : Below w0.heap.size w0 (w.drewN n) := ⟨h.os, h.tape, h.output, h.size, h.block⟩
theorem Rd.drewN {w : World} {B n : Nat} {A : Option Addr} {xs : List Value} (h : Rd w B A n xs) (k : Nat) : Rd (w.drewN k) B A n xs := h

set_option maxRecDepth 100000 in
set_option maxHeartbeats 1000000 in
theorem alike_any (A : Option Addr) (c : Nat) (k : Bk) (ep : Int) (w : World) (hA : Ents w w.heap.size A k.ents.length k.ents) (h1 : k.ents.length ≤ c) (h2 : c ≤ maxLen) (hn : k.ents.length ≤ 1000) :
    Calls Try.prog 31 #[bkv A k.ents.length c k.eps, .int .i64 ep] w fun e w' => e = .returned (.int .i64 (cntE k.ents ep : Int)) ∧ Below w.heap.size w w' := by
  have d0 := BBox.arg hA h1 h2
  obtain ⟨ents, eps⟩ := k
  dsimp only at d0 hn ⊢
  have hB : Below w.heap.size w (w.alloc (.cells #[.slice A ents.length c, .int .i64 eps] 25)) := below_one w _
  have D0 := Lib.hid d0
  obtain ⟨q0, q1⟩ := d0.cells
  dsimp only at q0 q1
  clear d0 hA
  go_enter Try.func31, Try.ntmps31
  go_wp2
  generalize (w.alloc (.cells #[.slice A ents.length c, .int .i64 eps] 25)) = W at D0 q0 q1 hB ⊢
  go_loop [5, 6] (fun v i => ∃ j : Nat, j ≤ ents.length ∧ i = .int .i64 j ∧ v = .int .i64 (cntE (ents.take j) ep : Int)) (fun _ i => ents.length - (intOf i).toNat)
  case atStart => exact ⟨0, Nat.zero_le _, rfl, rfl⟩
  case round =>
    obtain ⟨j, hj, rfl, rfl⟩ := hrel
    have hc2 := cntE_le (ents.take j) ep
    have hlt1 : (ents.take j).length ≤ j := List.length_take_le _ _
    by_cases hlt : j < ents.length
    · obtain ⟨xb, xo, ⟨xl, xv, xver, xep, xer⟩, Ax, cx, Ay, cy, rfl, hb, hx, c1, c2, c3, c4, c5, p1, p2, p3, s1, s2, s3⟩ := D0.out.ents.at_ hlt
      have hsn := cntE_snoc (ents.take j) ⟨xl, xv, xver, xep, xer⟩ ep
      rw [← take_snoc_of hx] at hsn
      have HSN := Lib.hid hsn
      dsimp only at c1 c2 c3 c4 c5 p1 p2 s1 s2
      clear hx p3 s3 hsn
      have hk0 : (0 : Int) ≤ (j : Int) := by omega
      have hk1 : (j : Int) < (ents.length : Int) := by omega
      go_wp2
      all_goals
        go_round
        case rel =>
          refine ⟨j + 1, by omega, by go_num, ?_⟩
          rw [HSN.out]
          dsimp only
          first
            | (rw [if_pos (eq_of_beq (show (xep == ep) = true by assumption))]; go_num)
            | (rw [if_neg (beq_eq_false_iff_ne.1 (show (xep == ep) = false by assumption))]; go_num)
        case measure => simp [intOf]; omega
    · have hjn : ¬ (j : Int) < (ents.length : Int) := by omega
      have HJ : Hid (ents.take j = ents) := Lib.hid (List.take_of_length_le (by omega))
      go_wp2
      go_ret
      exact ⟨ret_i (by rw [HJ.out]), hB⟩

set_option maxRecDepth 100000 in
set_option maxHeartbeats 1000000 in
theorem many_any (A : Option Addr) (c : Nat) (k : Bk) (Al : Option Addr) (cl : Nat) (lab : List UInt8) (m : Nat) (w : World) (hA : Ents w w.heap.size A k.ents.length k.ents) (h1 : k.ents.length ≤ c) (h2 : c ≤ maxLen) (hn : k.ents.length ≤ 1000) (hm : m ≤ k.ents.length) (hL : Rd w w.heap.size Al lab.length (bvs lab)) :
    Calls Try.prog 28 #[bkv A k.ents.length c k.eps, .slice Al lab.length cl, .int .i64 (m : Int)] w fun e w' => e = .returned (.int .i64 (cntL (k.ents.take m) lab : Int)) ∧ Below w.heap.size w w' := by
  have d0 := BBox.arg hA h1 h2
  obtain ⟨ents, eps⟩ := k
  dsimp only at d0 hn hm ⊢
  have hB : Below w.heap.size w (w.alloc (.cells #[.slice A ents.length c, .int .i64 eps] 25)) := below_one w _
  have hL1 := (hL.below hB).more hB.size
  have D0 := Lib.hid d0
  have HL1 := Lib.hid hL1
  obtain ⟨q0, q1⟩ := d0.cells
  dsimp only at q0 q1
  clear d0 hA hL hL1
  go_enter Try.func28, Try.ntmps28
  go_wp2
  generalize (w.alloc (.cells #[.slice A ents.length c, .int .i64 eps] 25)) = W at D0 q0 q1 hB HL1 ⊢
  obtain ⟨SL, hSL⟩ : ∃ S : ByteArray, S = ⟨lab.toArray⟩ := ⟨_, rfl⟩
  have v2 : ∀ nq, (convert 26 9 (.slice Al lab.length cl)).run Try.prog (W.drewN nq) = .ok (.string SL) (W.drewN nq) := fun nq => by rw [hSL]; exact conv_rd (HL1.out.drewN nq) cl
  have HSL := Lib.hid hSL
  clear hSL
  go_loopw [7, 8] (fun v i wr => ∃ j q : Nat, j ≤ m ∧ i = .int .i64 j ∧ v = .int .i64 (cntL (ents.take j) lab : Int) ∧ wr = W.drewN q) (fun _ i _ => m - (intOf i).toNat)
  case atStart => exact ⟨0, 0, Nat.zero_le _, rfl, rfl, rfl⟩
  case round =>
    obtain ⟨j, q, hj, rfl, rfl, rfl⟩ := hrel
    have hc2 := cntL_le (ents.take j) lab
    have hlt1 : (ents.take j).length ≤ j := List.length_take_le _ _
    by_cases hlt : j < m
    · obtain ⟨xb, xo, ⟨xl, xv, xver, xep, xer⟩, Ax, cx, Ay, cy, rfl, hb, hx, c1, c2, c3, c4, c5, p1, p2, p3, s1, s2, s3⟩ := D0.out.ents.at_ (k := j) (by show j < ents.length; omega)
      have hsn := cntL_snoc (ents.take j) ⟨xl, xv, xver, xep, xer⟩ lab
      rw [← take_snoc_of hx] at hsn
      have HSN := Lib.hid hsn
      dsimp only at c1 c2 c3 c4 c5 p1 p2 p3 s1 s2
      obtain ⟨SX, hSX⟩ : ∃ S : ByteArray, S = ⟨xl.toArray⟩ := ⟨_, rfl⟩
      have v1 : ∀ nq, (convert 26 9 (.slice Ax xl.length cx)).run Try.prog (W.drewN nq) = .ok (.string SX) (W.drewN nq) := fun nq => by rw [hSX]; exact conv_rd (p3.drewN nq) cx
      have hk0 : (0 : Int) ≤ (j : Int) := by omega
      have hk1 : (j : Int) < (ents.length : Int) := by omega
      have hk2 : (j : Int) < (m : Int) := by omega
      by_cases hl : xl = lab
      · have e1 : (SX.toList == SL.toList) = true := by rw [hSX, HSL.out, hl]; simp
        have HLB := Lib.hid hl
        clear hx p3 s3 hsn hSX hl
        go_wp2
        go_quiet (fail)
        go_wp2
        go_roundw
        case rel => exact ⟨j + 1, _, by omega, by go_num, by rw [HSN.out, if_pos HLB.out]; go_num, rfl⟩
        case measure => simp [intOf]; omega
      · have e1 : (SX.toList == SL.toList) = false := by rw [hSX, HSL.out]; simpa using hl
        have HLB := Lib.hid hl
        clear hx p3 s3 hsn hSX hl
        go_wp2
        go_quiet (fail)
        go_wp2
        go_roundw
        case rel => exact ⟨j + 1, _, by omega, by go_num, by rw [HSN.out, if_neg HLB.out]; go_num, rfl⟩
        case measure => simp [intOf]; omega
    · have hjn : ¬ (j : Int) < (m : Int) := by omega
      have HJ : Hid (j = m) := Lib.hid (by omega)
      go_wp2
      go_ret
      exact ⟨ret_i (by rw [HJ.out]), below_drewN hB _⟩
end Go.Proofs.Ytkiijbbcfbkecaa
