/- epoch.Latest. -/
import Derived.Test.YtkiijbbcfbkecaaG1
namespace Go.Proofs.Ytkiijbbcfbkecaa
open Go.RowKit Go.Shelf
set_option linter.unusedVariables false
attribute [local go_sem] Oper.semAt_some

def hadN (l : List (Nat × Int × Int)) : Nat := l.countP fun x => decide (0 < x.2.2)
def latA (k : Bk) (lab : List UInt8) : Int := if checkBk k then ((mts k.ents lab k.ents.length).length : Int) else 0
def latH (k : Bk) (lab : List UInt8) : Int := if checkBk k then (hadN (mts k.ents lab k.ents.length) : Int) else 0
theorem hadN_snoc (l : List (Nat × Int × Int)) (x : Nat × Int × Int) : hadN (l ++ [x]) = hadN l + if 0 < x.2.2 then 1 else 0 := by
  unfold hadN
  rw [List.countP_append]
  by_cases h : 0 < x.2.2 <;> simp [h]
theorem hadN_le (l : List (Nat × Int × Int)) : hadN l ≤ l.length := List.countP_le_length
/-- A block of cells abides the turn of whatever is no cells. -/
theorem blk_own {W W' : World} {row : Option Nat} {g : Nat} {t : TypeId} {cs : Array Value} (h : Blk W g t cs) (hg : W.grownBy W' row) (hr : ∀ r, row = some r → ∃ o : Obj, W.heap[r]? = some o ∧ o.isCells = false) : Blk W' g t cs :=
  h.grown hg (fun e => by
    obtain ⟨o, ho, hc⟩ := hr g e.symm
    unfold Blk at h
    rw [h] at ho
    injection ho with ho
    subst ho
    cases hc)

set_option maxRecDepth 100000 in
set_option maxHeartbeats 4000000 in
theorem latest_any (A : Option Addr) (c : Nat) (k : Bk) (Al : Option Addr) (cl : Nat) (lab : List UInt8) (w : World) (hA : Ents w w.heap.size A k.ents.length k.ents) (h1 : k.ents.length ≤ c) (h2 : c ≤ maxLen) (hL : Rd w w.heap.size Al lab.length (bvs lab)) :
    Calls Try.prog 11 #[bkv A k.ents.length c k.eps, .slice Al lab.length cl] w fun e w' => e = .returned (.tuple #[.int .i64 (latH k lab), .int .i64 (latA k lab)]) ∧ Below w.heap.size w w' := by
  have D0 := Lib.hid (BBox.arg hA h1 h2)
  have H1 := Lib.hid h1
  have H2 := Lib.hid h2
  have HL := Lib.hid hL
  clear hA hL
  cases hck : checkBk k
  · have hw : latA k lab = 0 := by simp [latA, hck]
    have hw2 : latH k lab = 0 := by simp [latH, hck]
    rw [hw, hw2]
    have HC := Lib.hid hck
    clear hw hw2 hck
    obtain ⟨ents, eps⟩ := k
    dsimp only at D0 H1
    go_enter Try.func11, Try.ntmps11
    go_wp2_with (go_at_call 15; refine (check_any A c ⟨ents, eps⟩ _ D0.out.ents H1.out H2.out).mono ?_; rw [HC.out]; simp only [errOf]; rintro e w1 ⟨rfl, hB1⟩)
    go_ret2
    exact ⟨rfl, keepB hB1 (below_one w _)⟩
  · have hw : latA k lab = ((mts k.ents lab k.ents.length).length : Int) := by simp [latA, hck]
    have hw2 : latH k lab = (hadN (mts k.ents lab k.ents.length) : Int) := by simp [latH, hck]
    rw [hw, hw2]
    have HC := Lib.hid hck
    have hlen : k.ents.length ≤ 72 := by simp [checkBk] at hck; omega
    clear hw hw2 hck
    obtain ⟨ents, eps⟩ := k
    dsimp only at D0 H1 hlen ⊢
    have hx1 : 1 ≤ 5 := by omega
    refine (callsIn_wide (n := 5)).1 ?_
    refine callsIn_of_wp_marks Try.func11 rfl trivial ?_ rfl
    simp only [Try.ntmps11, List.size_toArray, List.length_cons, List.length_nil, Nat.reduceAdd, Nat.reduceSub, Array.replicate_succ, Array.replicate_zero, List.push_toArray, List.append_toArray, List.nil_append, List.cons_append]
    gi_wp2_with (first
      | (refine ⟨trivial, ?_⟩; gi_at_call 15; refine (callsIn_wide.2 (check_any A c ⟨ents, eps⟩ _ D0.out.ents H1.out H2.out)).mono ?_; rw [HC.out]; simp only [errOf]; rintro e w1 ⟨rfl, hB1⟩; have d1 := Lib.hid (D0.out.after hB1); have b1a := fun o => (d1.out.blk.alloc o).cell; have b1b := fun o o' => ((d1.out.blk.alloc o).alloc o').cell; have b1 := d1.out.blk.cell)
      | (refine ⟨trivial, ?_⟩; gi_at_call 27; refine (of_in _ A ents.length c eps Al lab.length cl _).mono ?_; rintro e w2 ⟨rfl, rfl⟩))
    have k6 : Blk ((((w1.alloc (.cells #[.int .i64 0] 3)).alloc (.cells #[.int .i64 0] 3)).alloc (.cells #[.slice A ents.length c, .int .i64 eps] 25)).alloc (.cells #[.slice Al lab.length cl] 26)) w1.heap.size 3 #[.int .i64 0] := (((Blk.new w1 _ _).alloc _).alloc _).alloc _
    have k7 : Blk ((((w1.alloc (.cells #[.int .i64 0] 3)).alloc (.cells #[.int .i64 0] 3)).alloc (.cells #[.slice A ents.length c, .int .i64 eps] 25)).alloc (.cells #[.slice Al lab.length cl] 26)) (w1.heap.size + 1) 3 #[.int .i64 0] := by
      have := ((Blk.new (w1.alloc (.cells #[.int .i64 0] 3)) 3 #[.int .i64 0]).alloc (.cells #[.slice A ents.length c, .int .i64 eps] 25)).alloc (.cells #[.slice Al lab.length cl] 26)
      simpa using this
    have kb : Blk ((((w1.alloc (.cells #[.int .i64 0] 3)).alloc (.cells #[.int .i64 0] 3)).alloc (.cells #[.slice A ents.length c, .int .i64 eps] 25)).alloc (.cells #[.slice Al lab.length cl] 26)) (w1.heap.size + 1 + 1) 25 #[.slice A ents.length c, .int .i64 eps] := by
      have := (Blk.new ((w1.alloc (.cells #[.int .i64 0] 3)).alloc (.cells #[.int .i64 0] 3)) 25 #[.slice A ents.length c, .int .i64 eps]).alloc (.cells #[.slice Al lab.length cl] 26)
      simpa using this
    have kl : Blk ((((w1.alloc (.cells #[.int .i64 0] 3)).alloc (.cells #[.int .i64 0] 3)).alloc (.cells #[.slice A ents.length c, .int .i64 eps] 25)).alloc (.cells #[.slice Al lab.length cl] 26)) (w1.heap.size + 1 + 1 + 1) 26 #[.slice Al lab.length cl] := by
      have := Blk.new (((w1.alloc (.cells #[.int .i64 0] 3)).alloc (.cells #[.int .i64 0] 3)).alloc (.cells #[.slice A ents.length c, .int .i64 eps] 25)) 26 #[.slice Al lab.length cl]
      simpa using this
    have kB : Below w1.heap.size w1 ((((w1.alloc (.cells #[.int .i64 0] 3)).alloc (.cells #[.int .i64 0] 3)).alloc (.cells #[.slice A ents.length c, .int .i64 eps] 25)).alloc (.cells #[.slice Al lab.length cl] 26)) := bel_alloc (bel_alloc (bel_alloc (below_one w1 _)))
    have kS : ((((w1.alloc (.cells #[.int .i64 0] 3)).alloc (.cells #[.int .i64 0] 3)).alloc (.cells #[.slice A ents.length c, .int .i64 eps] 25)).alloc (.cells #[.slice Al lab.length cl] 26)).heap.size = w1.heap.size + 4 := by simp
    have HBW := Lib.hid (keepB hB1 (below_one w (.cells #[.slice A ents.length c, .int .i64 eps] 25)))
    have HE1 := Lib.hid (d1.out.ents)
    have HL1 := Lib.hid ((HL.out.below HBW.out).more HBW.out.size)
    generalize ((((w1.alloc (.cells #[.int .i64 0] 3)).alloc (.cells #[.int .i64 0] 3)).alloc (.cells #[.slice A ents.length c, .int .i64 eps] 25)).alloc (.cells #[.slice Al lab.length cl] 26)) = W0 at k6 k7 kb kl kB kS ⊢
    have KS := Lib.hid kS
    have hs4 : w1.heap.size + 4 ≤ W0.heap.size := by omega
    have hs5 : w1.heap.size + 1 + 1 + 1 < W0.heap.size := by omega
    clear b1 b1a b1b hB1 D0 kS
    refine wpIn_rangeFunc_ownH rfl hx1 (gf := 41) (lb := #[.pointer (some ⟨w1.heap.size + 1 + 1, 0, none⟩), .pointer (some ⟨w1.heap.size + 1 + 1 + 1, 0, none⟩)]) rfl trivial (enters_of Try.func41 (by kernel_rfl) rfl)
      (of_stops 4 (by omega) (w1.heap.size + 1 + 1) (w1.heap.size + 1 + 1 + 1) w1.heap.size A c eps ents Al cl lab (by omega) W0 (by omega) (kb.cell 0) (kl.cell 0) (by omega) (by omega) (HE1.out.below kB) (HL1.out.below kB))
      KpL.trans (fun W l o o' hl h hc hw => ⟨belowK_b (w := W0) (by omega) W l o o' hl h hc hw, ?hsame⟩) (Below.refl _ _) (fun _ => rfl)
      (fun pre W => ((Blk W w1.heap.size 3 #[.int .i64 (hadN (pre.map RE.proj) : Int)] ∧ Blk W (w1.heap.size + 1) 3 #[.int .i64 (pre.length : Int)]) ∧ Below w1.heap.size w1 W) ∧ w1.heap.size + 4 ≤ W.heap.size)
      (fun _ _ _ => False)
      (OwnFrom.and (OwnFrom.and (Own.from (fun s A B row hs hg hr => ⟨blk_own hs.1 hg hr, blk_own hs.2 hg hr⟩) _) (ownFrom_below (Nat.le_refl _) (by omega))) (fun s A B row hs hg hr => Nat.le_trans hs hg.size))
      (fun _ _ _ _ _ hs _ _ => hs)
      ⟨⟨⟨k6, k7⟩, kB⟩, hs4⟩
      (fun x a' W => ∃ Bx, w1.heap.size + 4 ≤ Bx ∧ Blk W Bx 49 #[.slice x.Al x.nl x.cl, .slice x.Av x.nv x.cv, .int .i64 x.ver, .int .i64 x.ep, .bool x.er] ∧ a' = { tmps := #[bkv A ents.length c eps, .slice Al lab.length cl, .pointer (some ⟨w.heap.size, 0, none⟩), undef, .int .i64 0, .int .i64 0, .pointer (some ⟨w1.heap.size, 0, none⟩), .pointer (some ⟨w1.heap.size + 1, 0, none⟩), undef, .pointer (some ⟨Bx, 0, none⟩), .agg #[.slice A ents.length c, .int .i64 eps], .int .i64 0, .bool false, .agg #[.slice A ents.length c, .int .i64 eps], .slice Al lab.length cl, .func (.func 41) #[] #[.pointer (some ⟨w1.heap.size + 1 + 1, 0, none⟩), .pointer (some ⟨w1.heap.size + 1 + 1 + 1, 0, none⟩)], .int .i64 (x.i : Int), x.val, undef, undef, undef, undef, undef, undef, undef, undef, undef], defers := [] })
      (fun x a' s A B row hs hg hr => by obtain ⟨Bx, g1, g2, g3⟩ := hs; exact ⟨Bx, g1, blk_own g2 hg (fun r e => (hr r e).2), g3⟩)
      ?assign ?body ?done ?stop
    case hsame =>
      have hlt := (Array.getElem?_eq_some_iff.1 h).1
      exact (grownBy_putObj' W l o').block _ (by omega) (by simp; omega)
    case assign =>
      rintro l pre x W K ⟨⟨⟨h6, h7⟩, hB⟩, hsz⟩ hK
      gi_wp2
      exact hK _ _ ((KeepsOthers.alloc _ _).from _) ⟨(Below.refl _ W).alloc (by omega) _, Below.heap_alloc W _ _ (by omega)⟩ ⟨⟨⟨h6.alloc _, h7.alloc _⟩, bel_alloc hB⟩, by simp; omega⟩ ⟨W.heap.size, hsz, Blk.new W _ _, rfl⟩
    case body =>
      rintro l pre x a' W hl ⟨r, hr⟩ ⟨⟨⟨h6, h7⟩, hB⟩, hsz⟩ ⟨Bx, hBx, bX, rfl⟩ hlt
      have c6 := h6.cell
      have f6 := h6.frozen
      have c7 := h7.cell
      have f7 := h7.frozen
      have cX := bX.cell
      have hh := hadN_le (pre.map RE.proj)
      rw [List.length_map] at hh
      have r7 := h7.set_ 0 (.int .i64 ((pre.length : Int) + 1))
      have bX' := bX.far (p := ⟨w1.heap.size + 1, 0, none⟩) (by simp; omega) (.int .i64 ((pre.length : Int) + 1))
      have h6' := h6.far (p := ⟨w1.heap.size + 1, 0, none⟩) (by simp) (.int .i64 ((pre.length : Int) + 1))
      have cX' := bX'.cell
      have c6' := h6'.cell
      have f6' := h6'.frozen
      have H6 := Lib.hid h6
      have H7 := Lib.hid h7
      have R7 := Lib.hid r7
      have H6' := Lib.hid h6'
      clear h6 h7 r7 bX' h6'
      have hsn := hadN_snoc (pre.map RE.proj) x.proj
      have hmp : (pre ++ [x]).map RE.proj = pre.map RE.proj ++ [x.proj] := by simp
      rw [← hmp] at hsn
      have HSN := Lib.hid hsn
      have hlp : (((pre ++ [x]).length : Nat) : Int) = (pre.length : Int) + 1 := by simp
      have HLP := Lib.hid hlp
      clear hsn hmp hlp
      gi_wp2
      · have hep : 0 < x.ep := by assumption
        have e6 : ((hadN ((pre ++ [x]).map RE.proj) : Nat) : Int) = (hadN (pre.map RE.proj) : Int) + 1 := by rw [HSN.out, if_pos (by exact hep)]; omega
        refine ⟨((KeepsOthers.setCell _ _ _).trans (KeepsOthers.setCell _ _ _)).from _, ⟨((Below.refl _ W).setCell (p := ⟨w1.heap.size + 1, 0, none⟩) (by simp) _).setCell (p := ⟨w1.heap.size, 0, none⟩) (Nat.le_refl _) _, (Below.heap_setCell _ ⟨w1.heap.size, 0, none⟩ _ _ (by simp; omega)).trans (Below.heap_setCell W ⟨w1.heap.size + 1, 0, none⟩ _ _ (by show w1.heap.size + 1 + 1 + 1 ≠ w1.heap.size + 1; omega))⟩, ⟨⟨⟨?_, ?_⟩, (hB.setCell (p := ⟨w1.heap.size + 1, 0, none⟩) (by simp) _).setCell (p := ⟨w1.heap.size, 0, none⟩) (Nat.le_refl _) _⟩, ?_⟩⟩
        · rw [e6]
          simpa using H6'.out.set_ 0 (.int .i64 ((hadN (pre.map RE.proj) : Int) + 1))
        · rw [HLP.out]
          have := R7.out.far (p := ⟨w1.heap.size, 0, none⟩) (by simp) (.int .i64 ((hadN (pre.map RE.proj) : Int) + 1))
          simpa using this
        · simp; omega
      · have hep : ¬ 0 < x.ep := by first | assumption | omega
        have e6 : ((hadN ((pre ++ [x]).map RE.proj) : Nat) : Int) = (hadN (pre.map RE.proj) : Int) := by rw [HSN.out, if_neg (by exact hep)]; omega
        refine ⟨(KeepsOthers.setCell _ _ _).from _, ⟨(Below.refl _ W).setCell (p := ⟨w1.heap.size + 1, 0, none⟩) (by simp) _, Below.heap_setCell W ⟨w1.heap.size + 1, 0, none⟩ _ _ (by show w1.heap.size + 1 + 1 + 1 ≠ w1.heap.size + 1; omega)⟩, ⟨⟨⟨?_, ?_⟩, hB.setCell (p := ⟨w1.heap.size + 1, 0, none⟩) (by simp) _⟩, ?_⟩⟩
        · rw [e6]
          exact H6'.out
        · rw [HLP.out]
          simpa using R7.out
        · simp; omega
    case done =>
      rintro D ys W hD hS ⟨⟨⟨h6, h7⟩, hB⟩, hsz⟩ hK
      have c6 := h6.cell
      have c7 := h7.cell
      gi_wp2
      gi_region
      gi_wp2
      refine ⟨by simp, .inl ⟨_, _, rfl, run_takeDeferred (w := W.drew) hK, ?_⟩⟩
      refine ⟨_, results_tmp2 rfl _ _ _, ?_, ?_⟩
      · have hl : ((ys.length : Nat) : Int) = ((mts ents lab ents.length).length : Int) := by rw [← hS, List.length_map]
        rw [← hS]
        simp
      · exact (keepB hB.drew HBW.out).trans (belowK_b (w := W0) (by have := HBW.out.size; omega) W.drew D _ _ hD hK rfl rfl)
    case stop =>
      rintro D c pre W _ _ h _
      exact h.elim
end Go.Proofs.Ytkiijbbcfbkecaa
