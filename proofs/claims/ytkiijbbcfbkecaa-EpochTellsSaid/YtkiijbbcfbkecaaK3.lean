/- EpochTells, walked. -/
import Derived.Test.YtkiijbbcfbkecaaK1
import Derived.Test.YtkiijbbcfbkecaaH5
import Derived.Test.YtkiijbbcfbkecaaH8
namespace Go.Proofs.Ytkiijbbcfbkecaa
open Go.RowKit
set_option linter.unusedVariables false

theorem keepTell {W w' : World} {b : Nat} {A : Option Addr} {c : Nat} {k : Bk} (hd : BBox W b A c k) (h : Below W.heap.size W w') : w'.cell? ⟨b, 0, none⟩ = some (.slice A k.ents.length c) ∧ w'.cell? ⟨b, 1, none⟩ = some (.int .i64 k.eps) ∧ Below W.heap.size W w' :=
  ⟨(hd.after h).cells.1, (hd.after h).cells.2, h⟩

set_option maxRecDepth 100000 in
set_option maxHeartbeats 4000000 in
theorem tells_walk (A : Option Addr) (c : Nat) (k : Bk) (Al : Option Addr) (cl : Nat) (lab : List UInt8) (ver : Int) (w : World) (hA : Ents w w.heap.size A k.ents.length k.ents) (h1 : k.ents.length ≤ c) (h2 : c ≤ maxLen) (hL : Rd w w.heap.size Al lab.length (bvs lab)) :
    Calls Try.prog 4 #[bkv A k.ents.length c k.eps, .slice Al lab.length cl, .int .i64 ver] w fun e w' => e = .returned (.bool true) ∧ Below w.heap.size w w' := by
  have D0 := Lib.hid (BBox.arg hA h1 h2)
  have H1 := Lib.hid h1
  have H2 := Lib.hid h2
  have HLb := Lib.hid hL
  obtain ⟨ents, eps⟩ := k
  dsimp only at D0 H1
  clear hA hL h1 h2
  obtain ⟨q0, q1⟩ := D0.out.cells
  dsimp only at q0 q1
  cases hf : fewE ents
  · have HF := Lib.hid hf
    clear hf
    go_enter Try.func4, Try.ntmps4
    go_wp2_with (first
      | (go_at_call 9; refine (awake_any _).mono ?_; rintro e w1 ⟨rfl, hB1⟩; have D1 := Lib.hid (D0.out.after hB1); have HB1 := Lib.hid (keepB hB1 (below_one w _)); clear q0 q1 hB1; obtain ⟨q0, q1⟩ := D1.out.cells)
      | (go_at_call 10; refine (fewE_any A c ⟨ents, eps⟩ _ D1.out.ents H1.out H2.out).mono ?_; dsimp only; rw [HF.out]; rintro e w2 ⟨rfl, hB2⟩))
    go_ret
    exact ⟨rfl, keepB hB2 HB1.out⟩
  · have HF := Lib.hid hf
    clear hf
    by_cases hl : lab.length ≤ 300
    · have hlb : decide ((300 : Int) < (lab.length : Int)) = false := decide_eq_false (by omega)
      have hlb2 : decide (300 < lab.length) = false := decide_eq_false (by omega)
      clear hl
      go_enter Try.func4, Try.ntmps4
      go_wp2_with (first
        | (go_at_call 9; refine (awake_any _).mono ?_; rintro e w1 ⟨rfl, hB1⟩; have D1 := Lib.hid (D0.out.after hB1); have HB1 := Lib.hid (keepB hB1 (below_one w _)); clear q0 q1 hB1; obtain ⟨q0, q1⟩ := D1.out.cells)
        | (go_at_call 10; refine (fewE_any A c ⟨ents, eps⟩ _ D1.out.ents H1.out H2.out).mono ?_; dsimp only; rw [HF.out]; rintro e w2 ⟨rfl, hB2⟩; have D2 := Lib.hid (D1.out.after hB2); have HB2 := Lib.hid (keepB hB2 HB1.out); clear q0 q1 hB2; obtain ⟨q0, q1⟩ := D2.out.cells)
        | (go_at_call 11; refine (latest_any A c ⟨ents, eps⟩ Al cl lab _ D2.out.ents H1.out H2.out (rd_after HLb.out HB2.out)).mono ?_; rintro e w3 ⟨rfl, hB3⟩; have D3 := Lib.hid (D2.out.after hB3); have HB3 := Lib.hid (keepB hB3 HB2.out); clear q0 q1 hB3; obtain ⟨q0, q1⟩ := D3.out.cells)
        | (go_at_call 12; refine (rlatest_any A c ⟨ents, eps⟩ Al cl lab _ D3.out.ents H1.out H2.out (rd_after HLb.out HB3.out)).mono ?_; rintro e w4 ⟨rfl, hB4⟩; have D4 := Lib.hid (D3.out.after hB4); have HB4 := Lib.hid (keepB hB4 HB3.out); clear q0 q1 hB4; obtain ⟨q0, q1⟩ := D4.out.cells)
        | (go_at_call 13; refine (get_any A c ⟨ents, eps⟩ Al cl lab ver _ D4.out.ents H1.out H2.out (rd_after HLb.out HB4.out)).mono ?_; rintro e w5 ⟨rfl, hB5⟩; have D5 := Lib.hid (D4.out.after hB5); have HB5 := Lib.hid (keepB hB5 HB4.out); clear q0 q1 hB5; obtain ⟨q0, q1⟩ := D5.out.cells)
        | (go_at_call 14; refine (rget_any A c ⟨ents, eps⟩ Al cl lab ver _ D5.out.ents H1.out H2.out (rd_after HLb.out HB5.out)).mono ?_; rintro e w6 ⟨rfl, hB6⟩; have D6 := Lib.hid (D5.out.after hB6); have HB6 := Lib.hid (keepB hB6 HB5.out); clear q0 q1 hB6))
      have hK := Lib.hid (fun w' => keepTell (w' := w') D6.out)
      generalize latH ⟨ents, eps⟩ lab = vh
      generalize latA ⟨ents, eps⟩ lab = va
      generalize getI ⟨ents, eps⟩ lab ver = vi
      generalize getOk ⟨ents, eps⟩ lab ver = vo
      go_region_held3 (fun w' => w'.cell? ⟨w.heap.size, 0, none⟩ = some (.slice A ents.length c) ∧ w'.cell? ⟨w.heap.size, 1, none⟩ = some (.int .i64 eps) ∧ Below w6.heap.size w6 w')
        ((refine hK.out _ ?_; simp only [Below.refl, bel_drew, *]))
        (first
          | (go_at_call 15; go_split_ands; refine (check_any A c ⟨ents, eps⟩ _ (ents_after D6.out.ents (by with_reducible assumption)) H1.out H2.out).mono ?_; rintro e w7 ⟨rfl, hB7⟩; have hW7 := keepB hB7 (W := w6) (by with_reducible assumption))
          | (go_at_call 16; go_split_ands; refine (rcheck_any A c ⟨ents, eps⟩ _ (ents_after D6.out.ents (by with_reducible assumption)) H1.out H2.out).mono ?_; rintro e w8 ⟨rfl, hB8⟩; have hW8 := keepB hB8 (W := w6) hW7)
          | (go_at_call 17; go_split_ands; refine (waiting_any A c ⟨ents, eps⟩ _ (ents_after D6.out.ents (by with_reducible assumption)) H1.out H2.out).mono ?_; rintro e w9 ⟨rfl, hB9⟩; have hW9 := keepB hB9 (W := w6) hW8)
          | (go_at_call 18; go_split_ands; refine (rwaiting_any A c ⟨ents, eps⟩ _ (ents_after D6.out.ents (by with_reducible assumption)) H1.out H2.out).mono ?_; rintro e w10 ⟨rfl, hB10⟩; have hW10 := keepB hB10 (W := w6) hW9))
      go_wp2
      go_ret
      exact ⟨rfl, keepB hW10 HB6.out⟩
    · have hlb : decide ((300 : Int) < (lab.length : Int)) = true := decide_eq_true (by omega)
      have hlb2 : decide (300 < lab.length) = true := decide_eq_true (by omega)
      clear hl
      go_enter Try.func4, Try.ntmps4
      go_wp2_with (first
        | (go_at_call 9; refine (awake_any _).mono ?_; rintro e w1 ⟨rfl, hB1⟩; have D1 := Lib.hid (D0.out.after hB1); have HB1 := Lib.hid (keepB hB1 (below_one w _)); clear q0 q1 hB1; obtain ⟨q0, q1⟩ := D1.out.cells)
        | (go_at_call 10; refine (fewE_any A c ⟨ents, eps⟩ _ D1.out.ents H1.out H2.out).mono ?_; dsimp only; rw [HF.out]; rintro e w2 ⟨rfl, hB2⟩))
      go_ret
      exact ⟨rfl, keepB hB2 HB1.out⟩
theorem tells_bs (A : Option Addr) (c : Nat) (k : Bk) (Al : Option Addr) (nl cl : Nat) (lab : List UInt8) (ver : Int) (w : World) (hA : Ents w w.heap.size A k.ents.length k.ents) (h1 : k.ents.length ≤ c) (h2 : c ≤ maxLen) (hL : Bs w w.heap.size (.slice Al nl cl) lab) :
    Calls Try.prog 4 #[bkv A k.ents.length c k.eps, .slice Al nl cl, .int .i64 ver] w fun e w' => e = .returned (.bool true) ∧ Below w.heap.size w w' := by
  obtain ⟨A', c', e, _, _, hr⟩ := hL
  simp only [Value.slice.injEq] at e
  obtain ⟨rfl, rfl, rfl⟩ := e
  exact tells_walk A c k _ _ lab ver w hA h1 h2 hr
end Go.Proofs.Ytkiijbbcfbkecaa
