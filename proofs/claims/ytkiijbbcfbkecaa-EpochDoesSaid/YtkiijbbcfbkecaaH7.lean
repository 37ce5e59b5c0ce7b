/- The document's Check, Waiting, Latest, Get. -/
import Derived.Test.YtkiijbbcfbkecaaH6
import Derived.Test.YtkiijbbcfbkecaaP4
namespace Go.Proofs.Ytkiijbbcfbkecaa
open Go.RowKit
set_option linter.unusedVariables false

theorem may_all {k : Bk} (g0 : 0 ≤ k.eps) (g1 : k.eps ≤ 16) (g2 : k.ents.length ≤ 72) (h : ∀ (i : Nat) (x : Ent), k.ents[i]? = some x → mayB k i x = true) : checkBk k = true := (check_may k).2 ⟨⟨g0, g1, g2⟩, h⟩
theorem may_some {k : Bk} {i : Nat} {x : Ent} (hx : k.ents[i]? = some x) (h : mayB k i x = false) : checkBk k = false := by
  rcases Bool.eq_false_or_eq_true (checkBk k) with hc | hc
  · have := ((check_may k).1 hc).2 i x hx
    rw [h] at this
    cases this
  · exact hc

set_option maxRecDepth 100000 in
set_option maxHeartbeats 2000000 in
theorem rcheck_any (A : Option Addr) (c : Nat) (k : Bk) (w : World) (hA : Ents w w.heap.size A k.ents.length k.ents) (h1 : k.ents.length ≤ c) (h2 : c ≤ maxLen) :
    Calls Try.prog 16 #[bkv A k.ents.length c k.eps] w fun e w' => e = .returned (.int .i64 (errOf (checkBk k))) ∧ Below w.heap.size w w' := by
  have D0 := Lib.hid (BBox.arg hA h1 h2)
  have H1 := Lib.hid h1
  have H2 := Lib.hid h2
  clear hA
  by_cases g0 : 0 ≤ k.eps
  · by_cases g1 : k.eps ≤ 16
    · by_cases g2 : k.ents.length ≤ 72
      · have hres := fun h => may_all (k := k) g0 g1 g2 h
        have hresn := fun (j : Nat) (x : Ent) (hx : k.ents[j]? = some x) (h : mayB k j x = false) => may_some hx h
        obtain ⟨r, hr⟩ : ∃ r, r = checkBk k := ⟨_, rfl⟩
        rw [← hr] at hres hresn ⊢
        have HR1 := Lib.hid hres
        have HR2 := Lib.hid hresn
        obtain ⟨ents, eps⟩ := k
        dsimp only at D0 H1 g0 g1 g2 h1 HR1 HR2 ⊢
        have t0 : decide (eps < 0) = false := decide_eq_false (by omega)
        have t1 : decide (16 < eps) = false := decide_eq_false (by omega)
        have t2 : decide ((72 : Int) < (ents.length : Int)) = false := decide_eq_false (by omega)
        clear hres hresn hr
        go_enter Try.func16, Try.ntmps16
        go_wp2
        obtain ⟨W, hW⟩ : ∃ W, W = w.alloc (.cells #[.slice A ents.length c, .int .i64 eps] 25) := ⟨_, rfl⟩
        have hBW : Below w.heap.size w W := by rw [hW]; exact below_one w _
        have d0 := D0.out
        rw [← hW] at d0 ⊢
        clear hW D0
        have DD := Lib.hid d0
        clear d0
        go_loopw [3] (fun i wr => ∃ j : Nat, j ≤ ents.length ∧ i = .int .i64 j ∧ (∀ (i : Nat) (x : Ent), i < j → ents[i]? = some x → mayB ⟨ents, eps⟩ i x = true) ∧ Below W.heap.size W wr) (fun i _ => ents.length - (intOf i).toNat)
        case atStart => exact ⟨0, Nat.zero_le _, rfl, fun i x hi => absurd hi (by omega), Below.refl _ _⟩
        case round =>
          obtain ⟨j, hj, rfl, hall, hB⟩ := hrel
          have HALL := Lib.hid hall
          have HB := Lib.hid hB
          have dw := Lib.hid (DD.out.after hB)
          obtain ⟨q0, q1⟩ := dw.out.cells
          dsimp only at q0 q1
          clear hall hB
          by_cases hlt : j < ents.length
          · obtain ⟨x, hx⟩ : ∃ x, ents[j]? = some x := ⟨_, List.getElem?_eq_getElem hlt⟩
            have X := Lib.hid hx
            clear hx
            have hk0 : (0 : Int) ≤ (j : Int) := by omega
            have hk1 : (j : Int) < (ents.length : Int) := by omega
            cases hf : mayB ⟨ents, eps⟩ j x
            · have HF := Lib.hid hf
              clear hf
              go_wp2_with (go_at_call 30; refine (may_any A c ⟨ents, eps⟩ j x _ dw.out.ents H1.out H2.out (Nat.le_trans g2 (by omega)) X.out).mono ?_; rw [HF.out]; rintro e w3 ⟨rfl, hB3⟩)
              go_ret
              refine ⟨?_, keepB (keepB hB3 HB.out) hBW⟩
              rw [HR2.out j _ X.out HF.out]
              rfl
            · have HF := Lib.hid hf
              clear hf
              go_wp2_with (go_at_call 30; refine (may_any A c ⟨ents, eps⟩ j x _ dw.out.ents H1.out H2.out (Nat.le_trans g2 (by omega)) X.out).mono ?_; rw [HF.out]; rintro e w3 ⟨rfl, hB3⟩)
              go_roundw
              case rel =>
                refine ⟨j + 1, by omega, by go_num, fun i y hi hy => ?_, keepB hB3 HB.out⟩
                rcases Nat.lt_or_ge i j with h | h
                · exact HALL.out i y h hy
                · obtain rfl : i = j := by omega
                  rw [X.out] at hy
                  injection hy with hy
                  subst hy
                  exact HF.out
              case measure => simp [intOf]; omega
          · have hjn : ¬ (j : Int) < (ents.length : Int) := by omega
            go_wp2
            go_ret
            refine ⟨?_, keepB HB.out hBW⟩
            rw [HR1.out (fun i x hx => HALL.out i x (by have := (List.getElem?_eq_some_iff.1 hx).1; omega) hx)]
            rfl
      · rw [checkBk_false_head (.inr (.inr (by omega)))]
        obtain ⟨ents, eps⟩ := k
        dsimp only at g0 g1 g2 ⊢
        have t0 : decide (eps < 0) = false := decide_eq_false (by omega)
        have t1 : decide (16 < eps) = false := decide_eq_false (by omega)
        have t2 : decide ((72 : Int) < (ents.length : Int)) = true := decide_eq_true (by omega)
        clear D0 H1 H2 h1 h2
        go_enter Try.func16, Try.ntmps16
        go_wp2
        go_ret
        exact ⟨rfl, below_one w _⟩
    · rw [checkBk_false_head (.inr (.inl (by omega)))]
      obtain ⟨ents, eps⟩ := k
      dsimp only at g0 g1 ⊢
      have t0 : decide (eps < 0) = false := decide_eq_false (by omega)
      have t1 : decide (16 < eps) = true := decide_eq_true (by omega)
      clear D0 H1 H2 h1 h2
      go_enter Try.func16, Try.ntmps16
      go_wp2
      go_ret
      exact ⟨rfl, below_one w _⟩
  · rw [checkBk_false_head (.inl (by omega))]
    obtain ⟨ents, eps⟩ := k
    dsimp only at g0 ⊢
    have t0 : decide (eps < 0) = true := decide_eq_true (by omega)
    clear D0 H1 H2 h1 h2
    go_enter Try.func16, Try.ntmps16
    go_wp2
    go_ret
    exact ⟨rfl, below_one w _⟩

set_option maxRecDepth 100000 in
set_option maxHeartbeats 1000000 in
theorem rwaiting_any (A : Option Addr) (c : Nat) (k : Bk) (w : World) (hA : Ents w w.heap.size A k.ents.length k.ents) (h1 : k.ents.length ≤ c) (h2 : c ≤ maxLen) :
    Calls Try.prog 18 #[bkv A k.ents.length c k.eps] w fun e w' => e = .returned (.int .i64 (waitN k)) ∧ Below w.heap.size w w' := by
  have D0 := Lib.hid (BBox.arg hA h1 h2)
  have H1 := Lib.hid h1
  have H2 := Lib.hid h2
  clear hA
  cases hck : checkBk k
  · have hw : waitN k = 0 := by simp [waitN, hck]
    rw [hw]
    have HC := Lib.hid hck
    clear hw hck
    obtain ⟨ents, eps⟩ := k
    dsimp only at D0 H1
    obtain ⟨q0, q1⟩ := D0.out.cells
    go_enter Try.func18, Try.ntmps18
    go_wp2_with (go_at_call 16; refine (rcheck_any A c ⟨ents, eps⟩ _ D0.out.ents H1.out H2.out).mono ?_; rw [HC.out]; simp only [errOf]; rintro e w1 ⟨rfl, hB1⟩)
    go_ret
    exact ⟨rfl, keepB hB1 (below_one w _)⟩
  · have hw : waitN k = (cntE k.ents 0 : Int) := by simp [waitN, hck]
    rw [hw]
    have HC := Lib.hid hck
    have hlen : k.ents.length ≤ 72 := by simp [checkBk] at hck; omega
    clear hw hck
    obtain ⟨ents, eps⟩ := k
    dsimp only at D0 H1 hlen ⊢
    obtain ⟨q0, q1⟩ := D0.out.cells
    go_enter Try.func18, Try.ntmps18
    go_wp2_with (first
      | (go_at_call 16; refine (rcheck_any A c ⟨ents, eps⟩ _ D0.out.ents H1.out H2.out).mono ?_; rw [HC.out]; simp only [errOf]; rintro e w1 ⟨rfl, hB1⟩; have d1 := Lib.hid (D0.out.after hB1); clear q0 q1; obtain ⟨q0, q1⟩ := d1.out.cells)
      | (go_at_call 31; refine (alike_any A c ⟨ents, eps⟩ 0 _ d1.out.ents H1.out H2.out (Nat.le_trans hlen (by omega))).mono ?_; rintro e w2 ⟨rfl, hB2⟩))
    go_ret
    exact ⟨rfl, keepB hB2 (keepB hB1 (below_one w _))⟩
end Go.Proofs.Ytkiijbbcfbkecaa
