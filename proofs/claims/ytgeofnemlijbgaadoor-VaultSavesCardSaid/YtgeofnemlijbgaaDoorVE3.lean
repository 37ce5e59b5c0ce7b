/- The document's Copy, Limit, On. -/
import Derived.Test.YtgeofnemlijbgaaDoorVE2
namespace Go.Proofs.YtgeofnemlijbgaaDoor
open Go.RowKit
set_option linter.unusedVariables false

/-- Three boxes, then nothing older is written. -/
theorem three_boxes (w : World) (a b c : Array Value) (t : TypeId) : Blk (((w.alloc (.cells a t)).alloc (.cells b t)).alloc (.cells c t)) w.heap.size t a ∧ Blk (((w.alloc (.cells a t)).alloc (.cells b t)).alloc (.cells c t)) (w.heap.size + 1) t b ∧ Blk (((w.alloc (.cells a t)).alloc (.cells b t)).alloc (.cells c t)) (w.heap.size + 1 + 1) t c ∧ Below w.heap.size w (((w.alloc (.cells a t)).alloc (.cells b t)).alloc (.cells c t)) := by
  refine ⟨((Blk.new w t a).alloc _).alloc _, ?_, ?_, (below_two w _ _).alloc (by simp; omega) _⟩
  · have := (Blk.new (w.alloc (.cells a t)) t b).alloc (.cells c t)
    simpa using this
  · have := Blk.new ((w.alloc (.cells a t)).alloc (.cells b t)) t c
    simpa using this

/-- An inner row is made by append. -/
theorem copy_in {wr W w2 : World} {v1 : Value} (hg : W.grownBy w2 (Value.ownBlock (.slice (some ⟨wr.heap.size, 0, none⟩) 0 0))) (hW : wr.grownBy W none) (hat : v1.ownBlock = Value.ownBlock (.slice (some ⟨wr.heap.size, 0, none⟩) 0 0) ∨ v1.ownBlock = some W.heap.size) :
    wr.grownBy w2 none ∧ ∀ g, v1.ownBlock = some g → wr.heap.size ≤ g := by
  refine ⟨⟨hg.os.trans hW.os, hg.tape.trans hW.tape, hg.output.trans hW.output, Nat.le_trans hW.size hg.size, fun i hi hne => (hg.block i (Nat.lt_of_lt_of_le hi hW.size) (fun e => ?_)).trans (hW.block i hi hne)⟩, fun g e => ?_⟩
  · injection (show some i = some wr.heap.size from e) with e
    omega
  · have := hW.size
    rcases hat with h | h
    · rw [h] at e
      injection (show some wr.heap.size = some g from e) with e
      omega
    · rw [h] at e
      injection e with e
      omega

theorem own_kept0 {w w' : World} {base : Nat} {e : TypeId} {size n : Nat} {v : Value} {xs : List Value} (h : w.ownsRow base e size v n xs) (hg : w.grownBy w' none) : w'.ownsRow base e size v n xs := h.kept hg (by rcases v.ownBlock with _ | g <;> simp)
set_option maxRecDepth 100000 in
set_option maxHeartbeats 4000000 in
theorem copy_any (A : Option Addr) (c : Nat) (d : Dsk) (w : World) (hd : Bss w w.heap.size A d.secs.length d.secs) (hs : Sm d.secs) :
    Calls Tryd.prog 47 #[dvD A c d] w (DRet w d id) := by
  obtain ⟨i1, hi1, hz1, hs1, hb1⟩ := info_parts infoTS
  obtain ⟨i2, hi2, hz2, hs2, hb2⟩ := info_parts infoTB
  obtain ⟨ss, left, torn, off, done⟩ := d
  dsimp only at hd hs ⊢
  obtain ⟨n, hn⟩ : ∃ n, n = ss.length := ⟨_, rfl⟩
  have hn1 : n ≤ 2048 := by rw [hn]; exact hs.1
  have Hn := Lib.hid hn
  rw [dvD]
  simp only [← hn] at hd ⊢
  clear hn
  have Hs := Lib.hid hs
  clear hs
  go_enter Tryd.func47, Tryd.ntmps47
  go_wp2
  go_loopw [4] (fun i wr => ∃ (k : Nat) (V : Value) (vs : List Value), k ≤ n ∧ i = .int .i64 k ∧ OwnS wr (w.heap.size + 3) V vs (ss.take k) ∧ Below w.heap.size w wr ∧ Blk wr w.heap.size 24 #[.slice A n c, .int .i64 left, .int .i64 torn, .bool off, .int .i64 done] ∧ Blk wr (w.heap.size + 1) 24 #[.slice none 0 0, .int .i64 0, .int .i64 0, .bool false, .int .i64 0] ∧ Blk wr (w.heap.size + 1 + 1) 24 #[V, .int .i64 left, .int .i64 torn, .bool off, .int .i64 done]) (fun i _ => n - (intOf i).toNat)
  case atStart =>
    obtain ⟨x1, x2, x3, x4⟩ := three_boxes w #[.slice A n c, .int .i64 left, .int .i64 torn, .bool off, .int .i64 done] #[.slice none 0 0, .int .i64 0, .int .i64 0, .bool false, .int .i64 0] #[.slice none 0 0, .int .i64 left, .int .i64 torn, .bool off, .int .i64 done] 24
    exact ⟨0, _, [], Nat.zero_le _, rfl, by simpa using OwnS.nil_ _ _, x4, x1, x2, x3⟩
  case round =>
    obtain ⟨k, V, vs, hk, rfl, hO, hB, r0, r1, r2⟩ := hrel
    have J := Lib.hid hO
    have B0 := Lib.hid r0
    have B1 := Lib.hid r1
    have B2 := Lib.hid r2
    have z1 := r2.lt
    by_cases hlt : k < n
    · have c0 := r0.cell
      have c0a := fun o => (r0.alloc o).cell
      clear B2
      have hlk : (ss.take k).length = k := by rw [List.length_take]; have := Hn.out; omega
      obtain ⟨A0, c0', rfl, e1, e2⟩ := hO.form
      rw [hlk] at r2 e1
      have B2 := Lib.hid r2
      have c2 := r2.cell
      have c2a := fun o => (r2.alloc o).cell
      have hout : wr.ownsRow (w.heap.size + 3) 25 1 (.slice A0 k c0') k vs := by have := hO.outer; rw [hlk] at this; exact this
      obtain ⟨ad, Ai, ci, l, rfl, hb, hl, hc, h1, h2, h3⟩ := hd.at_ hlt
      have hb' : (ad.add k).block < wr.heap.size := by rw [block_of_add]; have := hB.size; omega
      have hc' := (hB.cell (p := ad.add k) (by rw [block_of_add]; exact hb)).trans hc
      have hca := fun o => (World.cell?_alloc_lt wr o (ad.add k) hb').trans hc'
      have hl100 : l.length ≤ 100 := Hs.out.2 k l hl
      have hk0 : (0 : Int) ≤ (k : Int) := by omega
      have hk1 : (k : Int) < (n : Int) := by omega
      have hmade : (wr.alloc (.cells #[] 5)).ownsRow (w.heap.size + 3) 5 1 (.slice (some ⟨wr.heap.size, 0, none⟩) 0 0) 0 [] := World.ownsRow_made wr #[] 0 (by omega) (Nat.zero_le _) rfl
      have hrd1 : Rd (wr.alloc (.cells #[] 5)) w.heap.size Ai (l.length * 1) (bvs l) := by rw [Nat.mul_one]; exact (h3.below hB).below ((below_one wr _).mono hB.size)
      have m1 : 0 + l.length ≤ maxLen := by unfold maxLen; omega
      have m2 : (0 + l.length) * 1 ≤ 140737488355328 := by omega
      have m3 : w.heap.size + 3 ≤ (wr.alloc (.cells #[] 5)).heap.size := by simp; omega
      have hnl : k + 1 ≤ maxLen := by unfold maxLen; omega
      have hnb : (k + 1) * 24 ≤ 140737488355328 := by omega
      have HU := Lib.hid hout
      have HL := Lib.hid hl
      have HK := Lib.hid hlk
      have HM := Lib.hid hmade
      have HR := Lib.hid hrd1
      have M1 := Lib.hid m1
      have M2 := Lib.hid m2
      have M3 := Lib.hid m3
      unfold maxLen at h2
      clear hO r0 r1 r2 hout hl hc h3 hmade hrd1 hlk m1 m2 m3
      go_wp2
      go_region_law (first
        | (refine step_append_any _ (by rfl) (.tmp 23) (.tmp 28) 25 (by rfl) (w.heap.size + 3) 5 i2 (.int .u8 0) 1 1 Tryd.underlying25 hi2 hz2 hs2 hb2 rfl (by omega) (.slice (some ⟨wr.heap.size, 0, none⟩) 0 0) 0 [] (by rfl) HM.out w.heap.size Ai l.length ci (bvs l) (by rfl) HR.out (bvs_one l) M1.out M2.out M3.out ?_; intro v1 w2 hown2 hgr2 hat2; simp only [Nat.zero_add, List.nil_append] at hown2; have hCI := Lib.hid (copy_in hgr2 (grown_drew (World.grownBy_alloc wr _ none)) hat2); obtain ⟨A1, c1, rfl, q1, q2⟩ := own_form hown2; have bO2 := B2.out.grown hCI.out.1 (by simp); have c22 := bO2.cell; have c22a := fun o => (bO2.alloc o).cell; have HU2 := Lib.hid (own_kept0 HU.out hCI.out.1); have RD2 := Lib.hid (rd_new w2 (.slice A1 l.length c1) 25); have SZ2 : Hid (w.heap.size + 3 ≤ (w2.alloc (.cells #[.slice A1 l.length c1] 25)).heap.size) := (by have := hCI.out.1.size; show _ ≤ _; simp; omega); have BO2 := Lib.hid bO2; have HO2 := Lib.hid hown2; clear bO2 hgr2 hat2 hown2)
        | (refine step_append_any _ (by rfl) (.tmp 22) (.tmp 30) 22 (by rfl) (w.heap.size + 3) 25 i1 (.slice none 0 0) 1 24 Tryd.underlying22 hi1 hz1 hs1 hb1 rfl (by omega) (.slice A0 k c0') k vs (by rfl) (HU2.out.alloc _) (w2.heap.size + 1) (some ⟨w2.heap.size, 0, none⟩) 1 1 [.slice A1 l.length c1] (by rfl) RD2.out (one_slice _ _ _) hnl hnb SZ2.out ?_; intro V' w3 hown3 hgr3 hat3; have b3 := box_grown hgr3 (BO2.out.alloc _) (HU2.out.alloc _) (by omega); have c3 := b3.cell; have f3 := b3.frozen; obtain ⟨A3, c4, rfl, e3, e4⟩ := own_form hown3))
      all_goals
        go_wp2
        have hP := push_own (l' := l) J.out hCI.out.1 HO2.out hCI.out.2 (World.grownBy_alloc w2 (.cells #[.slice A1 l.length c1] 25) none) (by rw [HK.out]; exact hown3) (by rw [HK.out]; exact hgr3)
        have hB2 : Below w.heap.size w w2 := hB.grown hCI.out.1 hB.size (fun _ e => by cases e)
        have hB3 := (hB2.alloc hB2.size (.cells #[.slice A1 l.length c1] 25)).grown hgr3 (by simp; have := hB2.size; omega) (fun g e => by obtain ⟨_, _, h, _⟩ := own_block HU.out e; omega)
        have b1' := box_grown hgr3 ((B1.out.grown hCI.out.1 (by simp)).alloc _) (HU2.out.alloc _) (by omega)
        have b0' := box_grown hgr3 ((B0.out.grown hCI.out.1 (by simp)).alloc _) (HU2.out.alloc _) (by omega)
        have hst : ss.take k ++ [l] = ss.take (k + 1) := by rw [List.take_add_one, HL.out]; rfl
        rw [hst] at hP
        go_roundw
        case rel =>
          refine ⟨k + 1, .slice A3 (k + 1) c4, _, by omega, by go_num, hP.setCell (p := ⟨w.heap.size + 1 + 1, 0, none⟩) b3 (by decide) (by decide) _, hB3.setCell (p := ⟨w.heap.size + 1 + 1, 0, none⟩) (by simp; omega) _, b0'.far (p := ⟨w.heap.size + 1 + 1, 0, none⟩) (by simp; omega) _, b1'.far (p := ⟨w.heap.size + 1 + 1, 0, none⟩) (by simp) _, ?_⟩
          simpa using b3.set_ 0 (.slice A3 (k + 1) c4)
        case measure => simp [intOf]; omega
    · obtain rfl : k = n := by omega
      rw [List.take_of_length_le (by rw [← Hn.out]; exact Nat.le_refl _)] at hO
      obtain ⟨A0, c0, rfl, e1, e2⟩ := hO.form
      have J' := Lib.hid hO
      have hk' := Hn.out
      have cc0 := r0.cell
      have c1 := r1.cell
      have f1 := r1.frozen
      have c2 := r2.cell
      clear hO r0 r1 r2 J hk' Hn B2
      go_wp2
      refine bodyPost_ret (v := dv A0 ss.length c0 left torn off done) (by simp [results, Tryd.results47, go_sem, c1]) rfl ?_
      exact dret_fin (w := w) id left torn off done J'.out (by omega) hB B1.out (by omega)
end Go.Proofs.YtgeofnemlijbgaaDoor
