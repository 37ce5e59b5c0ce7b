/- The document's New. -/
import Derived.Test.YtgeofnemlijbgaaD7
import Derived.Test.YtgeofnemlijbgaaD6
namespace Go.Proofs.Ytgeofnemlijbgaa
open Go.RowKit
set_option linter.unusedVariables false

set_option maxHeartbeats 400000 in
theorem rnew_bad (n : Int) (w : World) (hx : n < 4 ∨ 2048 < n) :
    Calls Try.prog 11 #[.int .i64 n] w (DRet w (newD n).1 fun v => .tuple #[v, .int .i64 (newD n).2]) := by
  have hr : newD n = (⟨[], 0, 0, false, 0⟩, 1) := by simp [newD, hx]
  rw [hr]
  clear hr
  rcases hx with hx | hx
  all_goals
    go_enter Try.func11, Try.ntmps11
    go_wp2
    refine bodyPost_ret (v := .tuple #[dv none 0 0 0 0 false 0, .int .i64 1]) (by simp [results, Try.results11, go_sem]) rfl ?_
    exact ⟨none, 0, [], rfl, OwnS.nil_ _ _, below_one w _⟩

theorem grown_drew {a w : World} {row : Option Nat} (h : a.grownBy w row) : a.grownBy w.drew row := ⟨h.os, h.tape, h.output, h.size, h.block⟩
/-- A slice of one row, made and appended. -/
theorem push_own {w w1 w2 w3 : World} {base : Nat} {V V' v' : Value} {vs : List Value} {ss : List (List UInt8)} {l' : List UInt8} (hO : OwnS w base V vs ss) (hg1 : w.grownBy w1 none) (ho : w1.ownsRow base 5 1 v' l'.length (bvs l')) (hf : ∀ g, v'.ownBlock = some g → w.heap.size ≤ g)
    (hg2 : w1.grownBy w2 none) (hV : w3.ownsRow base 30 1 V' (ss.length + 1) (vs ++ [v'])) (hg3 : w2.grownBy w3 V.ownBlock) : OwnS w3 base V' (vs ++ [v']) (ss ++ [l']) :=
  ((hO.grown0 hg1).grown0 hg2).push (ho.kept hg2 (by rcases v'.ownBlock with _ | g <;> simp)) (hO.fresh hf) hV hg3

/-- A box ahead of the rows stays. -/
theorem box_grown {w w3 : World} {base g n : Nat} {e t : TypeId} {V : Value} {xs : List Value} {cs : Array Value} (hg : w.grownBy w3 V.ownBlock) (hb : Blk w g t cs) (ho : w.ownsRow base e 1 V n xs) (hlt : g < base) : Blk w3 g t cs :=
  hb.grown hg (fun e => by obtain ⟨_, _, h, _⟩ := own_block ho e.symm; omega)

set_option maxRecDepth 100000 in
set_option maxHeartbeats 2000000 in
theorem rnew_good (n : Nat) (w : World) (h4 : 4 ≤ n) (h5 : n ≤ 2048) :
    Calls Try.prog 11 #[.int .i64 (n : Int)] w (DRet w (newD n).1 fun v => .tuple #[v, .int .i64 (newD n).2]) := by
  obtain ⟨i1, hi1, hz1, hs1, hb1⟩ := info_parts infoTS
  have hr : newD n = (⟨List.replicate n (zeros 64), -1, 0, false, 0⟩, 0) := by
    have : ¬ ((n : Int) < 4 ∨ 2048 < (n : Int)) := by omega
    simp [newD, this]
  rw [hr]
  have hmk := run_make64
  have d1 : decide ((n : Int) < 4) = false := by simp; omega
  have d2 : decide (2048 < (n : Int)) = false := by simp; omega
  clear hr
  go_enter Try.func11, Try.ntmps11
  go_wp2
  go_loopw [5] (fun i wr => ∃ (k : Nat) (V : Value) (vs : List Value), k ≤ n ∧ i = .int .i64 k ∧ OwnS wr (w.heap.size + 2) V vs (List.replicate k (zeros 64)) ∧ Below w.heap.size w wr ∧ Blk wr w.heap.size 24 #[.slice none 0 0, .int .i64 0, .int .i64 0, .bool false, .int .i64 0] ∧ Blk wr (w.heap.size + 1) 24 #[V, .int .i64 (-1), .int .i64 0, .bool false, .int .i64 0]) (fun i _ => n - (intOf i).toNat)
  case atStart =>
    refine ⟨0, _, [], Nat.zero_le _, rfl, OwnS.nil_ _ _, below_two w _ _, (Blk.new w _ _).alloc _, ?_⟩
    simpa using Blk.new (w.alloc _) _ _
  case round =>
    obtain ⟨k, V, vs, hk, rfl, hO, hB, r1, r2⟩ := hrel
    have J := Lib.hid hO
    have B1 := Lib.hid r1
    have B2 := Lib.hid r2
    have z1 := r2.lt
    by_cases hlt : k < n
    · have c2 := r2.cell
      have c2a := fun o => (r2.alloc o).cell
      have f2a := fun o => (r2.alloc o).frozen
      have c2b := fun o o' => ((r2.alloc o).alloc o').cell
      obtain ⟨A0, c0, rfl, e1, e2⟩ := hO.form
      rw [List.length_replicate] at e1
      have hout : wr.ownsRow (w.heap.size + 2) 30 1 (.slice A0 k c0) k vs := by simpa using hO.outer
      simp only [List.length_replicate] at c2 c2a c2b
      have hnl : k + 1 ≤ maxLen := by unfold maxLen; omega
      have hnb : (k + 1) * 24 ≤ 140737488355328 := by omega
      have HU := Lib.hid hout
      clear hout
      have hrd : Rd ((wr.alloc (.cells z64 5)).alloc (.cells #[.slice (some ⟨wr.heap.size, 0, none⟩) 64 64] 30)) (wr.heap.size + 1 + 1) (some ⟨wr.heap.size + 1, 0, none⟩) (1 * 1) [.slice (some ⟨wr.heap.size, 0, none⟩) 64 64] := by simpa using rd_new (wr.alloc (.cells z64 5)) (.slice (some ⟨wr.heap.size, 0, none⟩) 64 64) 30
      have hsz : w.heap.size + 2 ≤ ((wr.alloc (.cells z64 5)).alloc (.cells #[.slice (some ⟨wr.heap.size, 0, none⟩) 64 64] 30)).heap.size := by simp; omega
      have RD := Lib.hid hrd
      have SZ := Lib.hid hsz
      clear hO r1 r2 hrd hsz
      go_wp2
      go_region_law (first
        | (refine step_append_any _ (by rfl) (.tmp 20) (.tmp 22) 22 (by rfl) (w.heap.size + 2) 30 i1 (.slice none 0 0) 1 24 Try.underlying22 hi1 hz1 hs1 hb1 rfl (by omega) (.slice A0 k c0) k vs (by rfl) ((HU.out.alloc _).alloc _) (wr.heap.size + 1 + 1) (some ⟨wr.heap.size + 1, 0, none⟩) 1 1 [.slice (some ⟨wr.heap.size, 0, none⟩) 64 64] (by rfl) RD.out (one_slice _ _ _) hnl hnb SZ.out ?_; intro V' w3 hown3 hgr3 hat3; have b3 := box_grown hgr3 ((B2.out.alloc _).alloc _) ((HU.out.alloc _).alloc _) (by omega); have c3 := b3.cell; have f3 := b3.frozen; obtain ⟨A3, c4, rfl, e3, e4⟩ := own_form hown3))
      all_goals
        go_wp2
        have hP := push_own (l' := zeros 64) J.out (World.grownBy_alloc wr (.cells z64 5) none) (own_z64 wr _ z1) (fun g e => by injection (show some wr.heap.size = some g from e) with e; omega) (grown_drew (World.grownBy_alloc _ (.cells #[.slice (some ⟨wr.heap.size, 0, none⟩) 64 64] 30) none)) (by rw [List.length_replicate]; exact hown3) (by rw [List.length_replicate]; exact hgr3)
        have hB3 := ((hB.alloc hB.size (.cells z64 5)).alloc (by simp; have := hB.size; omega) (.cells #[.slice (some ⟨wr.heap.size, 0, none⟩) 64 64] 30)).drew.grown hgr3 (by simp; have := hB.size; omega) (fun g e => by obtain ⟨_, _, h, _⟩ := own_block HU.out e; omega)
        have b1' := box_grown hgr3 ((B1.out.alloc _).alloc _) ((HU.out.alloc _).alloc _) (by omega)
        rw [← List.replicate_succ'] at hP
        go_roundw
        case rel =>
          refine ⟨k + 1, .slice A3 (k + 1) c4, _, by omega, by go_num, hP.setCell (p := ⟨w.heap.size + 1, 0, none⟩) b3 (by decide) (by decide) _, hB3.setCell (p := ⟨w.heap.size + 1, 0, none⟩) (by simp) _, b1'.far (p := ⟨w.heap.size + 1, 0, none⟩) (by simp) _, ?_⟩
          simpa using b3.set_ 0 (.slice A3 (k + 1) c4)
        case measure => simp [intOf]; omega
    · obtain rfl : k = n := by omega
      obtain ⟨A0, c0, rfl, e1, e2⟩ := hO.form
      have c1 := r1.cell
      have f1 := r1.frozen
      have c2 := r2.cell
      clear hO r1 r2
      go_wp2
      refine bodyPost_ret (v := .tuple #[dv A0 k c0 (-1) 0 false 0, .int .i64 0]) (by simp [results, Try.results11, go_sem, c1]) rfl ?_
      have := dret_fin (w := w) (fun v => .tuple #[v, .int .i64 0]) (-1) 0 false 0 J.out (by omega) hB B1.out (Nat.le_refl _)
      simpa using this
theorem rnew_any (n : Int) (w : World) : Calls Try.prog 11 #[.int .i64 n] w (DRet w (newD n).1 fun v => .tuple #[v, .int .i64 (newD n).2]) := by
  by_cases hx : n < 4 ∨ 2048 < n
  · exact rnew_bad n w hx
  · obtain ⟨k, rfl⟩ := Int.eq_ofNat_of_zero_le (show 0 ≤ n by omega)
    exact rnew_good k w (by omega) (by omega)
end Go.Proofs.Ytgeofnemlijbgaa
