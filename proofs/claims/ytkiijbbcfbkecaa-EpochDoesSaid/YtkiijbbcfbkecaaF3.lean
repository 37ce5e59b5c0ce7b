/- epoch.Check, epoch.Waiting. -/
import Derived.Test.YtkiijbbcfbkecaaF2
import Derived.Deep.RegionHeld3
import Derived.Deep.RegionHeldLaw
import Derived.Deep.DeepCutAuto
namespace Go.Proofs.Ytkiijbbcfbkecaa
open Go.RowKit
set_option linter.unusedVariables false

theorem checkBk_false_head {b : Bk} (h : b.eps < 0 ∨ 16 < b.eps ∨ 72 < b.ents.length) : checkBk b = false := by
  unfold checkBk
  rcases h with h | h | h
  · have : decide (0 ≤ b.eps) = false := decide_eq_false (by omega)
    simp [this]
  · have : decide (b.eps ≤ 16) = false := decide_eq_false (by omega)
    simp [this]
  · have : decide (b.ents.length ≤ 72) = false := decide_eq_false (by omega)
    simp [this]
theorem checkBk_false_at {b : Bk} {k : Nat} {x : Ent} (hx : b.ents[k]? = some x) (h : fitsB x (b.ents.take k) b.eps = false) : checkBk b = false := by
  have hk := (List.getElem?_eq_some_iff.1 hx).1
  have : (List.range b.ents.length).all (fitsAt b.ents b.eps) = false := by
    rw [List.all_eq_false]
    exact ⟨k, List.mem_range.2 hk, by simp [fitsAt, hx, h]⟩
  simp [checkBk, this]
theorem checkBk_true {b : Bk} (h0 : 0 ≤ b.eps) (h1 : b.eps ≤ 16) (h2 : b.ents.length ≤ 72) (h : ∀ (j : Nat) (x : Ent), b.ents[j]? = some x → fitsB x (b.ents.take j) b.eps = true) : checkBk b = true := by
  have : (List.range b.ents.length).all (fitsAt b.ents b.eps) = true := by
    rw [List.all_eq_true]
    intro k hk
    have hk' := List.mem_range.1 hk
    have hx : b.ents[k]? = some (b.ents[k]) := List.getElem?_eq_getElem hk'
    simp only [fitsAt, hx]
    exact h k _ hx
  simp [checkBk, this, h0, h1, h2]
theorem ret_err {b c : Bool} (h : b = c) : Ending.returned (.int .i64 (if b then 0 else 190)) = .returned (.int .i64 (if c then 0 else 190)) := by rw [h]
/-- An error's number. -/
def errOf (b : Bool) : Int := if b then 0 else 190

/-- What the loop's region keeps. -/
theorem keepC {W w' : World} {b b2 : Nat} {A : Option Addr} {c : Nat} {k : Bk} {cs : Array Value} {x0 x1 x2 x3 x4 : Value} (hd : BBox W b A c k) (h2 : Blk W b2 49 #[x0, x1, x2, x3, x4]) (h : Below W.heap.size W w') :
    w'.cell? ⟨b, 0, none⟩ = some (.slice A k.ents.length c) ∧ w'.cell? ⟨b, 1, none⟩ = some (.int .i64 k.eps) ∧ w'.cell? ⟨b2, 0, none⟩ = some x0 ∧ w'.cell? ⟨b2, 1, none⟩ = some x1 ∧ w'.cell? ⟨b2, 2, none⟩ = some x2 ∧ w'.cell? ⟨b2, 3, none⟩ = some x3 ∧ w'.cell? ⟨b2, 4, none⟩ = some x4 ∧ Below W.heap.size W w' := by
  obtain ⟨g0, g1⟩ := (hd.after h).cells
  have hb := h2.below h h2.lt
  exact ⟨g0, g1, hb.cell 0, hb.cell 1, hb.cell 2, hb.cell 3, hb.cell 4, h⟩

set_option maxRecDepth 100000 in
set_option maxHeartbeats 2000000 in
theorem check_any (A : Option Addr) (c : Nat) (k : Bk) (w : World) (hA : Ents w w.heap.size A k.ents.length k.ents) (h1 : k.ents.length ≤ c) (h2 : c ≤ maxLen) :
    Calls Try.prog 15 #[bkv A k.ents.length c k.eps] w fun e w' => e = .returned (.int .i64 (errOf (checkBk k))) ∧ Below w.heap.size w w' := by
  have D0 := Lib.hid (BBox.arg hA h1 h2)
  have H1 := Lib.hid h1
  have H2 := Lib.hid h2
  clear hA
  by_cases g0 : 0 ≤ k.eps
  · by_cases g1 : k.eps ≤ 16
    · by_cases g2 : k.ents.length ≤ 72
      · have hres := fun (h : ∀ (j : Nat) (x : Ent), k.ents[j]? = some x → fitsB x (k.ents.take j) k.eps = true) => checkBk_true g0 g1 g2 h
        have hresn := fun (j : Nat) (x : Ent) (hx : k.ents[j]? = some x) (h : fitsB x (k.ents.take j) k.eps = false) => checkBk_false_at (b := k) hx h
        obtain ⟨r, hr⟩ : ∃ r, r = checkBk k := ⟨_, rfl⟩
        rw [← hr] at hres hresn ⊢
        have HR1 := Lib.hid hres
        have HR2 := Lib.hid hresn
        obtain ⟨ents, eps⟩ := k
        dsimp only at D0 H1 g0 g1 g2 h1 HR1 HR2 ⊢
        have t0 : decide (eps < 0) = false := decide_eq_false (by omega)
        have t1 : decide (16 < eps) = false := decide_eq_false (by omega)
        have t2 : decide ((72 : Int) < (ents.length : Int)) = false := decide_eq_false (by omega)
        clear hres hresn hr
        unfold maxLen at h2
        go_enter Try.func15, Try.ntmps15
        go_wp2
        obtain ⟨W, hW⟩ : ∃ W, W = w.alloc (.cells #[.slice A ents.length c, .int .i64 eps] 25) := ⟨_, rfl⟩
        have hBW : Below w.heap.size w W := by rw [hW]; exact below_one w _
        have d0 := D0.out
        rw [← hW] at d0 ⊢
        clear hW D0
        have DD := Lib.hid d0
        clear d0
        go_loopw [22] (fun i wr => ∃ j : Nat, j ≤ ents.length ∧ i = .int .i64 j ∧ (∀ (i : Nat) (x : Ent), i < j → ents[i]? = some x → fitsB x (ents.take i) eps = true) ∧ Below W.heap.size W wr) (fun i _ => ents.length - (intOf i).toNat)
        case atStart => exact ⟨0, Nat.zero_le _, rfl, fun i x hi => absurd hi (by omega), Below.refl _ _⟩
        case round =>
          obtain ⟨j, hj, rfl, hall, hB⟩ := hrel
          have HALL := Lib.hid hall
          have HB := Lib.hid hB
          have dw := Lib.hid (DD.out.after hB)
          obtain ⟨q0, q1⟩ := dw.out.cells
          dsimp only at q0 q1
          clear hall hB
          by_cases hlt : j < ents.length
          · obtain ⟨xb, xo, ⟨xl, xv, xver, xep, xer⟩, Ax, cx, Ay, cy, rfl, hb, hx, c1, c2, c3, c4, c5, p1, p2, p3, s1, s2, s3⟩ := dw.out.ents.at_ hlt
            have X := Lib.hid hx
            have P3 := Lib.hid p3
            dsimp only at c1 c2 c3 c4 c5 p1 p2 s1 s2
            clear hx p3 s3
            have hk0 : (0 : Int) ≤ (j : Int) := by omega
            have hk1 : (j : Int) < (ents.length : Int) := by omega
            have hk2 : (j : Int) ≤ (c : Int) := by omega
            cases hf : fitsB ⟨xl, xv, xver, xep, xer⟩ (ents.take j) eps
            · have HF := Lib.hid hf
              clear hf
              go_wp2
              obtain ⟨W2, hW2⟩ : ∃ W2, W2 = wr.alloc (.cells #[.slice Ax xl.length cx, .slice Ay xv.length cy, .int .i64 xver, .int .i64 xep, .bool xer] 49) := ⟨_, rfl⟩
              have hB2 : Below wr.heap.size wr W2 := by rw [hW2]; exact below_one wr _
              have bx : Blk W2 wr.heap.size 49 #[.slice Ax xl.length cx, .slice Ay xv.length cy, .int .i64 xver, .int .i64 xep, .bool xer] := by rw [hW2]; exact Blk.new wr _ _
              rw [← hW2]
              clear hW2
              have dw2 := Lib.hid (dw.out.after hB2)
              have HB2 := Lib.hid (keepB hB2 HB.out)
              have R3 := Lib.hid (rd_after P3.out hB2)
              have hK := Lib.hid (fun w' => keepC (w' := w') (cs := #[]) dw2.out bx)
              clear hB2 bx dw P3 q0 q1 c1 c2 c3 c4 c5
              go_region_held3 (fun w' => w'.cell? ⟨w.heap.size, 0, none⟩ = some (.slice (some ⟨xb, xo, none⟩) ents.length c) ∧ w'.cell? ⟨w.heap.size, 1, none⟩ = some (.int .i64 eps) ∧ w'.cell? ⟨wr.heap.size, 0, none⟩ = some (.slice Ax xl.length cx) ∧ w'.cell? ⟨wr.heap.size, 1, none⟩ = some (.slice Ay xv.length cy) ∧ w'.cell? ⟨wr.heap.size, 2, none⟩ = some (.int .i64 xver) ∧ w'.cell? ⟨wr.heap.size, 3, none⟩ = some (.int .i64 xep) ∧ w'.cell? ⟨wr.heap.size, 4, none⟩ = some (.bool xer) ∧ Below W2.heap.size W2 w')
                ((refine hK.out _ ?_; simp only [Below.refl, bel_drew, *]))
                (first | (go_at_call 29; go_split_ands; refine (fits_any Ax cx Ay cy xl xv xver xep xer (some ⟨xb, xo, none⟩) j c (ents.take j) eps _ (rd_after R3.out (by with_reducible assumption)) ((ents_after dw2.out.ents (by with_reducible assumption)).take_ hj) (by omega)).mono ?_; rw [HF.out]; rintro e w3 ⟨rfl, hB3⟩; have hW3 := keepB hB3 (W := W2) (by with_reducible assumption)))
              go_wp2
              go_ret
              refine ⟨?_, keepB (keepB hW3 HB2.out) hBW⟩
              rw [HR2.out j _ X.out HF.out]
              rfl
            · have HF := Lib.hid hf
              clear hf
              go_wp2
              obtain ⟨W2, hW2⟩ : ∃ W2, W2 = wr.alloc (.cells #[.slice Ax xl.length cx, .slice Ay xv.length cy, .int .i64 xver, .int .i64 xep, .bool xer] 49) := ⟨_, rfl⟩
              have hB2 : Below wr.heap.size wr W2 := by rw [hW2]; exact below_one wr _
              have bx : Blk W2 wr.heap.size 49 #[.slice Ax xl.length cx, .slice Ay xv.length cy, .int .i64 xver, .int .i64 xep, .bool xer] := by rw [hW2]; exact Blk.new wr _ _
              rw [← hW2]
              clear hW2
              have dw2 := Lib.hid (dw.out.after hB2)
              have HB2 := Lib.hid (keepB hB2 HB.out)
              have R3 := Lib.hid (rd_after P3.out hB2)
              have hK := Lib.hid (fun w' => keepC (w' := w') (cs := #[]) dw2.out bx)
              clear hB2 bx dw P3 q0 q1 c1 c2 c3 c4 c5
              go_region_held3 (fun w' => w'.cell? ⟨w.heap.size, 0, none⟩ = some (.slice (some ⟨xb, xo, none⟩) ents.length c) ∧ w'.cell? ⟨w.heap.size, 1, none⟩ = some (.int .i64 eps) ∧ w'.cell? ⟨wr.heap.size, 0, none⟩ = some (.slice Ax xl.length cx) ∧ w'.cell? ⟨wr.heap.size, 1, none⟩ = some (.slice Ay xv.length cy) ∧ w'.cell? ⟨wr.heap.size, 2, none⟩ = some (.int .i64 xver) ∧ w'.cell? ⟨wr.heap.size, 3, none⟩ = some (.int .i64 xep) ∧ w'.cell? ⟨wr.heap.size, 4, none⟩ = some (.bool xer) ∧ Below W2.heap.size W2 w')
                ((refine hK.out _ ?_; simp only [Below.refl, bel_drew, *]))
                (first | (go_at_call 29; go_split_ands; refine (fits_any Ax cx Ay cy xl xv xver xep xer (some ⟨xb, xo, none⟩) j c (ents.take j) eps _ (rd_after R3.out (by with_reducible assumption)) ((ents_after dw2.out.ents (by with_reducible assumption)).take_ hj) (by omega)).mono ?_; rw [HF.out]; rintro e w3 ⟨rfl, hB3⟩; have hW3 := keepB hB3 (W := W2) (by with_reducible assumption)))
              go_wp2
              go_roundw
              case rel =>
                refine ⟨j + 1, by omega, by go_num, fun i x hi hx => ?_, keepB hW3 HB2.out⟩
                rcases Nat.lt_or_ge i j with h | h
                · exact HALL.out i x h hx
                · obtain rfl : i = j := by omega
                  rw [X.out] at hx
                  injection hx with hx
                  subst hx
                  exact HF.out
              case measure => simp [intOf]; omega
          · have hjn : ¬ (j : Int) < (ents.length : Int) := by omega
            go_wp2
            go_ret
            refine ⟨?_, keepB HB.out hBW⟩
            rw [HR1.out (fun i x hx => HALL.out i x (by have := (List.getElem?_eq_some_iff.1 hx).1; omega) hx)]
            rfl
      · rw [checkBk_false_head (.inr (.inr (by omega)))]
        obtain ⟨ents, eps⟩ := k
        dsimp only at g0 g1 g2 ⊢
        have t0 : decide (eps < 0) = false := decide_eq_false (by omega)
        have t1 : decide (16 < eps) = false := decide_eq_false (by omega)
        have t2 : decide ((72 : Int) < (ents.length : Int)) = true := decide_eq_true (by omega)
        clear D0 H1 H2 h1 h2
        go_enter Try.func15, Try.ntmps15
        go_wp2
        go_ret
        exact ⟨rfl, below_one w _⟩
    · rw [checkBk_false_head (.inr (.inl (by omega)))]
      obtain ⟨ents, eps⟩ := k
      dsimp only at g0 g1 ⊢
      have t0 : decide (eps < 0) = false := decide_eq_false (by omega)
      have t1 : decide (16 < eps) = true := decide_eq_true (by omega)
      clear D0 H1 H2 h1 h2
      go_enter Try.func15, Try.ntmps15
      go_wp2
      go_ret
      exact ⟨rfl, below_one w _⟩
  · rw [checkBk_false_head (.inl (by omega))]
    obtain ⟨ents, eps⟩ := k
    dsimp only at g0 ⊢
    have t0 : decide (eps < 0) = true := decide_eq_true (by omega)
    clear D0 H1 H2 h1 h2
    go_enter Try.func15, Try.ntmps15
    go_wp2
    go_ret
    exact ⟨rfl, below_one w _⟩
end Go.Proofs.Ytkiijbbcfbkecaa
