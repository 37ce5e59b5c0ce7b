/- The document's Same, at two books. -/
import Derived.Test.YtkiijbbcfbkecaaF3
namespace Go.Proofs.Ytkiijbbcfbkecaa
open Go.RowKit
set_option linter.unusedVariables false

/-- A call hands back a bool, which is false only if P. -/
def BoolP (w : World) (P : Prop) (e : Ending) (w' : World) : Prop := ∃ b, e = .returned (.bool b) ∧ (b = false → P) ∧ Below w.heap.size w w'
theorem bk_ne_at {k k' : Bk} {j : Nat} {x y : Ent} (hx : k.ents[j]? = some x) (hy : k'.ents[j]? = some y) (h : x ≠ y) : k ≠ k' := by
  intro e
  subst e
  rw [hx] at hy
  injection hy with hy
  exact h hy

set_option maxRecDepth 100000 in
set_option maxHeartbeats 4000000 in
theorem rsame_any (A A' : Option Addr) (c c' : Nat) (k k' : Bk) (w : World) (hA : Ents w w.heap.size A k.ents.length k.ents) (hA' : Ents w w.heap.size A' k'.ents.length k'.ents) (h1 : k.ents.length ≤ c) (h2 : c ≤ maxLen) (h1' : k'.ents.length ≤ c') (h2' : c' ≤ maxLen) :
    Calls Try.prog 25 #[bkv A k.ents.length c k.eps, bkv A' k'.ents.length c' k'.eps] w (BoolP w (k ≠ k')) := by
  have d0 := (BBox.arg hA h1 h2).alloc (.cells #[.slice A' k'.ents.length c', .int .i64 k'.eps] 25)
  have d1 : BBox ((w.alloc (.cells #[.slice A k.ents.length c, .int .i64 k.eps] 25)).alloc (.cells #[.slice A' k'.ents.length c', .int .i64 k'.eps] 25)) (w.heap.size + 1) A' c' k' := by
    have := BBox.arg (w := w.alloc (.cells #[.slice A k.ents.length c, .int .i64 k.eps] 25)) (ents_after hA' (below_one w _)) h1' h2'
    simpa using this
  obtain ⟨ents, eps⟩ := k
  obtain ⟨ents', eps'⟩ := k'
  dsimp only at d0 d1 h1 h1' ⊢
  have hB : Below w.heap.size w ((w.alloc (.cells #[.slice A ents.length c, .int .i64 eps] 25)).alloc (.cells #[.slice A' ents'.length c', .int .i64 eps'] 25)) := bel_alloc (below_one w _)
  have D0 := Lib.hid d0
  have D1 := Lib.hid d1
  have hcm := h2
  unfold maxLen at hcm
  clear d0 d1 hA hA'
  obtain ⟨Pr, hPr⟩ : ∃ Pr : Prop, Pr = ((⟨ents, eps⟩ : Bk) ≠ ⟨ents', eps'⟩) := ⟨_, rfl⟩
  rw [← hPr]
  have HPR := Lib.hid hPr
  clear hPr
  cases t1 : ((ents.length : Int) != (ents'.length : Int))
  · cases t2 : (eps != eps')
    · have hle : ents.length = ents'.length := by have := bne_eq_false_iff_eq.1 t1; omega
      have HLE := Lib.hid hle
      clear hle
      go_enter Try.func25, Try.ntmps25
      go_wp2
      generalize ((w.alloc (.cells #[.slice A ents.length c, .int .i64 eps] 25)).alloc (.cells #[.slice A' ents'.length c', .int .i64 eps'] 25)) = W at D0 D1 hB ⊢
      go_loopw [5] (fun i wr => ∃ j : Nat, j ≤ ents.length ∧ i = .int .i64 j ∧ Below W.heap.size W wr) (fun i _ => ents.length - (intOf i).toNat)
      case atStart => exact ⟨0, Nat.zero_le _, rfl, Below.refl _ _⟩
      case round =>
        obtain ⟨j, hj, rfl, hBr⟩ := hrel
        have d0 := Lib.hid (D0.out.after hBr)
        have d1 := Lib.hid (D1.out.after hBr)
        have HBr := Lib.hid hBr
        have q0 := d0.out.blk.cell
        have q1 := d1.out.blk.cell
        have q0a := fun o => (d0.out.blk.alloc o).cell
        have q1a := fun o => (d1.out.blk.alloc o).cell
        dsimp only at q0 q1 q0a q1a
        clear hBr
        by_cases hlt : j < ents.length
        · have hlt' : j < ents'.length := by rw [← HLE.out]; exact hlt
          obtain ⟨xb, xo, x, Ax, cx, Ay, cy, rfl, hb, hx, c1, c2, c3, c4, c5, p1, p2, p3, s1, s2, s3⟩ := d0.out.ents.at_ hlt
          obtain ⟨yb, yo, y, Bx, ex, By, ey, rfl, hb', hx', k1, k2, k3, k4, k5, p1', p2', p3', s1', s2', s3'⟩ := d1.out.ents.at_ hlt'
          dsimp only at hx hx'
          have HNE := Lib.hid (fun h : x ≠ y => bk_ne_at (k := ⟨ents, eps⟩) (k' := ⟨ents', eps'⟩) hx hx' h)
          clear hx hx'
          obtain ⟨xl, xv, xver, xep, xer⟩ := x
          obtain ⟨yl, yv, yver, yep, yer⟩ := y
          dsimp only at c1 c2 c3 c4 c5 p1 p2 p3 s1 s2 s3 k1 k2 k3 k4 k5 p1' p2' p3' s1' s2' s3'
          have hk0 : (0 : Int) ≤ (j : Int) := by omega
          have hk1 : (j : Int) < (ents.length : Int) := by omega
          have hk2 : (j : Int) < (ents'.length : Int) := by omega
          have ka0 := fun o => (World.cell?_alloc_lt wr o ⟨yb, yo + j * 5, none⟩ hb').trans k1
          have ka1 := fun o => (World.cell?_alloc_lt wr o ⟨yb, yo + j * 5 + 1, none⟩ hb').trans k2
          have ka2 := fun o => (World.cell?_alloc_lt wr o ⟨yb, yo + j * 5 + 2, none⟩ hb').trans k3
          have ka3 := fun o => (World.cell?_alloc_lt wr o ⟨yb, yo + j * 5 + 3, none⟩ hb').trans k4
          have ka4 := fun o => (World.cell?_alloc_lt wr o ⟨yb, yo + j * 5 + 4, none⟩ hb').trans k5
          have hBX : ∀ o o' : Obj, Below wr.heap.size wr ((wr.alloc o).alloc o') := fun o o' => bel_alloc (below_one wr o)
          obtain ⟨S1, hS1⟩ : ∃ S : ByteArray, S = ⟨xl.toArray⟩ := ⟨_, rfl⟩
          obtain ⟨S2, hS2⟩ : ∃ S : ByteArray, S = ⟨yl.toArray⟩ := ⟨_, rfl⟩
          obtain ⟨S3, hS3⟩ : ∃ S : ByteArray, S = ⟨xv.toArray⟩ := ⟨_, rfl⟩
          obtain ⟨S4, hS4⟩ : ∃ S : ByteArray, S = ⟨yv.toArray⟩ := ⟨_, rfl⟩
          have v1 : ∀ o o' : Obj, (convert 26 9 (.slice Ax xl.length cx)).run Try.prog ((wr.alloc o).alloc o') = .ok (.string S1) ((wr.alloc o).alloc o') := fun o o' => by rw [hS1]; exact conv_rd (p3.below (hBX o o')) cx
          have v2 : ∀ o o' : Obj, (convert 26 9 (.slice Bx yl.length ex)).run Try.prog ((wr.alloc o).alloc o') = .ok (.string S2) ((wr.alloc o).alloc o') := fun o o' => by rw [hS2]; exact conv_rd (p3'.below (hBX o o')) ex
          have v3 : ∀ o o' : Obj, (convert 26 9 (.slice Ay xv.length cy)).run Try.prog ((wr.alloc o).alloc o') = .ok (.string S3) ((wr.alloc o).alloc o') := fun o o' => by rw [hS3]; exact conv_rd (s3.below (hBX o o')) cy
          have v4 : ∀ o o' : Obj, (convert 26 9 (.slice By yv.length ey)).run Try.prog ((wr.alloc o).alloc o') = .ok (.string S4) ((wr.alloc o).alloc o') := fun o o' => by rw [hS4]; exact conv_rd (s3'.below (hBX o o')) ey
          have HL : Hid (xl = yl → S2 = S1) := Lib.hid (fun e => by rw [hS1, hS2, e])
          have HV : Hid (xv = yv → S4 = S3) := Lib.hid (fun e => by rw [hS3, hS4, e])
          have HL' : Hid (¬ xl = yl → ¬ S1.toList = S2.toList) := Lib.hid (fun e => by rw [hS1, hS2]; simpa using e)
          have HV' : Hid (¬ xv = yv → ¬ S3.toList = S4.toList) := Lib.hid (fun e => by rw [hS3, hS4]; simpa using e)
          clear p3 s3 p3' s3' hS1 hS2 hS3 hS4 hBX
          by_cases hl : xl = yl
          · have hs := HL.out hl
            subst hs
            clear hl
            by_cases hv : xv = yv
            · have hs := HV.out hv
              subst hs
              clear hv
              cases u3 : (xver != yver)
              · cases u4 : (xep != yep)
                · by_cases e5' : xer = yer
                  · subst e5'
                    have u5 : (xer != xer) = false := by simp
                    go_wp2
                    go_roundw
                    case rel => exact ⟨j + 1, by omega, by go_num, bel_alloc (bel_alloc HBr.out)⟩
                    case measure => simp [intOf]; omega
                  · have hb5 : yer = !xer := by cases xer <;> cases yer <;> simp_all
                    have HN : Hid Pr := Lib.hid (by rw [HPR.out]; exact HNE.out (fun e => by injection e with e1 e2 e3 e4 e5; exact e5' e5))
                    clear HPR
                    subst hb5
                    have u5 : (xer != !xer) = true := by simp
                    clear e5'
                    go_wp2
                    go_ret
                    exact ⟨false, rfl, fun _ => HN.out, keepB (bel_alloc (bel_alloc HBr.out)) hB⟩
                · skip
                  have HN : Hid Pr := Lib.hid (by rw [HPR.out]; exact HNE.out (fun e => by injection e with e1 e2 e3 e4 e5; rw [e4] at u4; simp at u4))
                  clear HPR
                  go_wp2
                  go_ret
                  exact ⟨false, rfl, fun _ => HN.out, keepB (bel_alloc (bel_alloc HBr.out)) hB⟩
              · skip
                have HN : Hid Pr := Lib.hid (by rw [HPR.out]; exact HNE.out (fun e => by injection e with e1 e2 e3 e4 e5; rw [e3] at u3; simp at u3))
                clear HPR
                go_wp2
                go_ret
                exact ⟨false, rfl, fun _ => HN.out, keepB (bel_alloc (bel_alloc HBr.out)) hB⟩
            · have hv1 := HV'.out hv
              have HN : Hid Pr := Lib.hid (by rw [HPR.out]; exact HNE.out (fun e => by injection e with e1 e2 e3 e4 e5; exact hv e2))
              clear HPR
              have hv2 : (S3.toList == S4.toList) = false := by simpa using hv1
              clear hv
              go_wp2
              go_ret
              exact ⟨false, rfl, fun _ => HN.out, keepB (bel_alloc (bel_alloc HBr.out)) hB⟩
          · have hl1 := HL'.out hl
            have HN : Hid Pr := Lib.hid (by rw [HPR.out]; exact HNE.out (fun e => by injection e with e1 e2 e3 e4 e5; exact hl e1))
            clear HPR
            have hl2 : (S1.toList == S2.toList) = false := by simpa using hl1
            clear hl
            go_wp2
            go_ret
            exact ⟨false, rfl, fun _ => HN.out, keepB (bel_alloc (bel_alloc HBr.out)) hB⟩
        · have hjn : ¬ (j : Int) < (ents.length : Int) := by omega
          go_wp2
          go_ret
          exact ⟨true, rfl, (fun h => by cases h), keepB HBr.out hB⟩
    · have HN : Hid Pr := Lib.hid (by rw [HPR.out]; intro e; injection e with e1 e2; rw [e2] at t2; simp at t2)
      clear HPR
      go_enter Try.func25, Try.ntmps25
      go_wp2
      go_ret
      exact ⟨false, rfl, fun _ => HN.out, hB⟩
  · have HN : Hid Pr := Lib.hid (by rw [HPR.out]; intro e; injection e with e1 e2; rw [e1] at t1; simp at t1)
    clear HPR
    go_enter Try.func25, Try.ntmps25
    go_wp2
    go_ret
    exact ⟨false, rfl, fun _ => HN.out, hB⟩
end Go.Proofs.Ytkiijbbcfbkecaa
