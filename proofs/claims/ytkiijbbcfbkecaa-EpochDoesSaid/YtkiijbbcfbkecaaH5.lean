/- The laws' Few. -/
import Derived.Test.YtkiijbbcfbkecaaF3
namespace Go.Proofs.Ytkiijbbcfbkecaa
open Go.RowKit
set_option linter.unusedVariables false

def fewE (l : List Ent) : Bool := decide (l.length ≤ 100) && l.all fun x => decide (x.label.length ≤ 300) && decide (x.value.length ≤ 300)
theorem fewE_len {l : List Ent} (h : 100 < l.length) : fewE l = false := by
  have : decide (l.length ≤ 100) = false := decide_eq_false (by omega)
  simp [fewE, this]
theorem fewE_at {l : List Ent} {j : Nat} {x : Ent} (hx : l[j]? = some x) (h : 300 < x.label.length ∨ 300 < x.value.length) : fewE l = false := by
  have : (l.all fun x => decide (x.label.length ≤ 300) && decide (x.value.length ≤ 300)) = false := by
    rw [List.all_eq_false]
    refine ⟨x, List.mem_of_getElem? hx, ?_⟩
    simp
    omega
  simp [fewE, this]
theorem fewE_true {l : List Ent} (h : l.length ≤ 100) (ha : ∀ (j : Nat) (x : Ent), l[j]? = some x → x.label.length ≤ 300 ∧ x.value.length ≤ 300) : fewE l = true := by
  have : (l.all fun x => decide (x.label.length ≤ 300) && decide (x.value.length ≤ 300)) = true := by
    rw [List.all_eq_true]
    intro x hx
    obtain ⟨j, hj⟩ := List.getElem?_of_mem hx
    have := ha j x hj
    simp
    omega
  simp [fewE, this, h]
theorem fewE_out {l : List Ent} (h : fewE l = true) : l.length ≤ 100 ∧ ∀ (j : Nat) (x : Ent), l[j]? = some x → x.label.length ≤ 300 ∧ x.value.length ≤ 300 := by
  simp only [fewE, Bool.and_eq_true, decide_eq_true_eq, List.all_eq_true] at h
  exact ⟨h.1, fun j x hx => h.2 x (List.mem_of_getElem? hx)⟩

set_option maxRecDepth 100000 in
set_option maxHeartbeats 1000000 in
theorem fewE_any (A : Option Addr) (c : Nat) (k : Bk) (w : World) (hA : Ents w w.heap.size A k.ents.length k.ents) (h1 : k.ents.length ≤ c) (h2 : c ≤ maxLen) :
    Calls Try.prog 10 #[bkv A k.ents.length c k.eps] w fun e w' => e = .returned (.bool (fewE k.ents)) ∧ Below w.heap.size w w' := by
  have d0 := BBox.arg hA h1 h2
  obtain ⟨ents, eps⟩ := k
  dsimp only at d0 h1 ⊢
  have hB : Below w.heap.size w (w.alloc (.cells #[.slice A ents.length c, .int .i64 eps] 25)) := below_one w _
  have D0 := Lib.hid d0
  obtain ⟨q0, q1⟩ := d0.cells
  dsimp only at q0 q1
  unfold maxLen at h2
  clear d0 hA
  by_cases hn : ents.length ≤ 100
  · have t1 : decide ((100 : Int) < (ents.length : Int)) = false := decide_eq_false (by omega)
    go_enter Try.func10, Try.ntmps10
    go_wp2
    generalize (w.alloc (.cells #[.slice A ents.length c, .int .i64 eps] 25)) = W at D0 q0 q1 hB ⊢
    go_loop [3] (fun i => ∃ j : Nat, j ≤ ents.length ∧ i = .int .i64 j ∧ ∀ (i : Nat) (x : Ent), i < j → ents[i]? = some x → x.label.length ≤ 300 ∧ x.value.length ≤ 300) (fun i => ents.length - (intOf i).toNat)
    case atStart => exact ⟨0, Nat.zero_le _, rfl, fun i x hi => absurd hi (by omega)⟩
    case round =>
      obtain ⟨j, hj, rfl, hall⟩ := hrel
      have H := Lib.hid hall
      clear hall
      by_cases hlt : j < ents.length
      · obtain ⟨xb, xo, ⟨xl, xv, xver, xep, xer⟩, Ax, cx, Ay, cy, rfl, hb, hx, c1, c2, c3, c4, c5, p1, p2, p3, s1, s2, s3⟩ := D0.out.ents.at_ hlt
        have X := Lib.hid hx
        dsimp only at c1 c2 c3 c4 c5 p1 p2 s1 s2
        clear hx p3 s3
        have hk0 : (0 : Int) ≤ (j : Int) := by omega
        have hk1 : (j : Int) < (ents.length : Int) := by omega
        by_cases hl : xl.length ≤ 300
        · have g1 : decide ((300 : Int) < (xl.length : Int)) = false := decide_eq_false (by omega)
          by_cases hv : xv.length ≤ 300
          · have g2 : decide ((300 : Int) < (xv.length : Int)) = false := decide_eq_false (by omega)
            go_wp2
            go_round
            case rel =>
              refine ⟨j + 1, by omega, by go_num, fun i x hi hx => ?_⟩
              rcases Nat.lt_or_ge i j with h | h
              · exact H.out i x h hx
              · obtain rfl : i = j := by omega
                rw [X.out] at hx
                injection hx with hx
                subst hx
                exact ⟨hl, hv⟩
            case measure => simp [intOf]; omega
          · have g2 : decide ((300 : Int) < (xv.length : Int)) = true := decide_eq_true (by omega)
            go_wp2
            go_ret
            exact ⟨ret_b (fewE_at X.out (.inr (by dsimp only; omega))).symm, hB⟩
        · have g1 : decide ((300 : Int) < (xl.length : Int)) = true := decide_eq_true (by omega)
          go_wp2
          go_ret
          exact ⟨ret_b (fewE_at X.out (.inl (by dsimp only; omega))).symm, hB⟩
      · have hjn : ¬ (j : Int) < (ents.length : Int) := by omega
        go_wp2
        go_ret
        exact ⟨ret_b (fewE_true hn (fun i x hx => H.out i x (by have := (List.getElem?_eq_some_iff.1 hx).1; omega) hx)).symm, hB⟩
  · have t1 : decide ((100 : Int) < (ents.length : Int)) = true := decide_eq_true (by omega)
    go_enter Try.func10, Try.ntmps10
    go_wp2
    go_ret
    exact ⟨ret_b (fewE_len (by omega)).symm, hB⟩
end Go.Proofs.Ytkiijbbcfbkecaa
