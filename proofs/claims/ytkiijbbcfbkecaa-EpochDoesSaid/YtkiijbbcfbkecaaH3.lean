/- The document's Same, at two readings of one book. -/
import Derived.Test.YtkiijbbcfbkecaaF3
namespace Go.Proofs.Ytkiijbbcfbkecaa
open Go.RowKit
set_option linter.unusedVariables false

set_option maxRecDepth 100000 in
set_option maxHeartbeats 2000000 in
theorem bsame_eq (A A' : Option Addr) (c c' : Nat) (k : Bk) (w : World) (hA : Ents w w.heap.size A k.ents.length k.ents) (hA' : Ents w w.heap.size A' k.ents.length k.ents) (h1 : k.ents.length ≤ c) (h2 : c ≤ maxLen) (h1' : k.ents.length ≤ c') (h2' : c' ≤ maxLen) :
    Calls Try.prog 25 #[bkv A k.ents.length c k.eps, bkv A' k.ents.length c' k.eps] w fun e w' => e = .returned (.bool true) ∧ Below w.heap.size w w' := by
  have d0 := (BBox.arg hA h1 h2).alloc (.cells #[.slice A' k.ents.length c', .int .i64 k.eps] 25)
  have d1 : BBox ((w.alloc (.cells #[.slice A k.ents.length c, .int .i64 k.eps] 25)).alloc (.cells #[.slice A' k.ents.length c', .int .i64 k.eps] 25)) (w.heap.size + 1) A' c' k := by
    have := BBox.arg (w := w.alloc (.cells #[.slice A k.ents.length c, .int .i64 k.eps] 25)) (ents_after hA' (below_one w _)) h1' h2'
    simpa using this
  obtain ⟨ents, eps⟩ := k
  dsimp only at d0 d1 h1 h1' ⊢
  have hB : Below w.heap.size w ((w.alloc (.cells #[.slice A ents.length c, .int .i64 eps] 25)).alloc (.cells #[.slice A' ents.length c', .int .i64 eps] 25)) := bel_alloc (below_one w _)
  have D0 := Lib.hid d0
  have D1 := Lib.hid d1
  have hcm := h2
  unfold maxLen at hcm
  clear d0 d1 hA hA'
  have t1 : ((ents.length : Int) != (ents.length : Int)) = false := by simp
  have t2 : (eps != eps) = false := by simp
  go_enter Try.func25, Try.ntmps25
  go_wp2
  generalize ((w.alloc (.cells #[.slice A ents.length c, .int .i64 eps] 25)).alloc (.cells #[.slice A' ents.length c', .int .i64 eps] 25)) = W at D0 D1 hB ⊢
  go_loopw [5] (fun i wr => ∃ j : Nat, j ≤ ents.length ∧ i = .int .i64 j ∧ Below W.heap.size W wr) (fun i _ => ents.length - (intOf i).toNat)
  case atStart => exact ⟨0, Nat.zero_le _, rfl, Below.refl _ _⟩
  case round =>
    obtain ⟨j, hj, rfl, hBr⟩ := hrel
    have d0 := Lib.hid (D0.out.after hBr)
    have d1 := Lib.hid (D1.out.after hBr)
    have HBr := Lib.hid hBr
    have q0 := d0.out.blk.cell
    have q1 := d1.out.blk.cell
    have q0a := fun o => (d0.out.blk.alloc o).cell
    have q1a := fun o => (d1.out.blk.alloc o).cell
    dsimp only at q0 q1 q0a q1a
    clear hBr
    by_cases hlt : j < ents.length
    · obtain ⟨xb, xo, x, Ax, cx, Ay, cy, rfl, hb, hx, c1, c2, c3, c4, c5, p1, p2, p3, s1, s2, s3⟩ := d0.out.ents.at_ hlt
      obtain ⟨yb, yo, y, Bx, ex, By, ey, rfl, hb', hx', k1, k2, k3, k4, k5, p1', p2', p3', s1', s2', s3'⟩ := d1.out.ents.at_ hlt
      dsimp only at hx hx'
      rw [hx] at hx'
      injection hx' with hx'
      subst hx'
      obtain ⟨xl, xv, xver, xep, xer⟩ := x
      dsimp only at c1 c2 c3 c4 c5 p1 p2 p3 s1 s2 s3 k1 k2 k3 k4 k5 p1' p2' p3' s1' s2' s3'
      have hk0 : (0 : Int) ≤ (j : Int) := by omega
      have hk1 : (j : Int) < (ents.length : Int) := by omega
      have ka := fun (o : Obj) (f : Nat) => World.cell?_alloc_lt wr o ⟨yb, yo + j * 5 + f, none⟩ hb'
      have ka0 := fun o => (World.cell?_alloc_lt wr o ⟨yb, yo + j * 5, none⟩ hb').trans k1
      have ka1 := fun o => (World.cell?_alloc_lt wr o ⟨yb, yo + j * 5 + 1, none⟩ hb').trans k2
      have ka2 := fun o => (World.cell?_alloc_lt wr o ⟨yb, yo + j * 5 + 2, none⟩ hb').trans k3
      have ka3 := fun o => (World.cell?_alloc_lt wr o ⟨yb, yo + j * 5 + 3, none⟩ hb').trans k4
      have ka4 := fun o => (World.cell?_alloc_lt wr o ⟨yb, yo + j * 5 + 4, none⟩ hb').trans k5
      clear ka
      have hBX : ∀ o o' : Obj, Below wr.heap.size wr ((wr.alloc o).alloc o') := fun o o' => bel_alloc (below_one wr o)
      obtain ⟨SL, hSL⟩ : ∃ S : ByteArray, S = ⟨xl.toArray⟩ := ⟨_, rfl⟩
      obtain ⟨SV, hSV⟩ : ∃ S : ByteArray, S = ⟨xv.toArray⟩ := ⟨_, rfl⟩
      have v1 : ∀ o o' : Obj, (convert 26 9 (.slice Ax xl.length cx)).run Try.prog ((wr.alloc o).alloc o') = .ok (.string SL) ((wr.alloc o).alloc o') := fun o o' => by rw [hSL]; exact conv_rd (p3.below (hBX o o')) cx
      have v2 : ∀ o o' : Obj, (convert 26 9 (.slice Bx xl.length ex)).run Try.prog ((wr.alloc o).alloc o') = .ok (.string SL) ((wr.alloc o).alloc o') := fun o o' => by rw [hSL]; exact conv_rd (p3'.below (hBX o o')) ex
      have v3 : ∀ o o' : Obj, (convert 26 9 (.slice Ay xv.length cy)).run Try.prog ((wr.alloc o).alloc o') = .ok (.string SV) ((wr.alloc o).alloc o') := fun o o' => by rw [hSV]; exact conv_rd (s3.below (hBX o o')) cy
      have v4 : ∀ o o' : Obj, (convert 26 9 (.slice By xv.length ey)).run Try.prog ((wr.alloc o).alloc o') = .ok (.string SV) ((wr.alloc o).alloc o') := fun o o' => by rw [hSV]; exact conv_rd (s3'.below (hBX o o')) ey
      have u1 : (SL.toList != SL.toList) = false := by simp
      have u2 : (SV.toList != SV.toList) = false := by simp
      have u3 : (xver != xver) = false := by simp
      have u4 : (xep != xep) = false := by simp
      have u5 : (xer != xer) = false := by simp
      clear p3 s3 p3' s3' hx hSL hSV hBX
      go_wp2
      go_roundw
      case rel => exact ⟨j + 1, by omega, by go_num, bel_alloc (bel_alloc HBr.out)⟩
      case measure => simp [intOf]; omega
    · have hjn : ¬ (j : Int) < (ents.length : Int) := by omega
      go_wp2
      go_ret
      exact ⟨rfl, keepB HBr.out hB⟩
end Go.Proofs.Ytkiijbbcfbkecaa
