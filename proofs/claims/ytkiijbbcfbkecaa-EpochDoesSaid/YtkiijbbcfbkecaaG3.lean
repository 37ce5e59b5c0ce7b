/- epoch.Get. -/
import Derived.Test.YtkiijbbcfbkecaaG2
namespace Go.Proofs.Ytkiijbbcfbkecaa
open Go.RowKit Go.Shelf
set_option linter.unusedVariables false
attribute [local go_sem] Oper.semAt_some

def findV (l : List (Nat × Int × Int)) (ver : Int) : Option Nat := (l.find? fun x => decide (x.2.1 = ver)).map (·.1)
def getI (k : Bk) (lab : List UInt8) (ver : Int) : Int := if checkBk k then ((findV (mts k.ents lab k.ents.length) ver).getD 0 : Nat) else 0
def getOk (k : Bk) (lab : List UInt8) (ver : Int) : Bool := if checkBk k then (findV (mts k.ents lab k.ents.length) ver).isSome else false
theorem mts_more (l : List Ent) (lab : List UInt8) (k : Nat) : ∀ d, ∃ r, mts l lab (k + d) = mts l lab k ++ r
  | 0 => ⟨[], by simp⟩
  | d + 1 => by
    obtain ⟨r, hr⟩ := mts_more l lab k d
    rw [← Nat.add_assoc, mts, hr, List.append_assoc]
    exact ⟨_, rfl⟩
theorem find_none {ys : List RE} {l : List (Nat × Int × Int)} {ver : Int} (hS : ys.map RE.proj = l) (h : ∀ y ∈ ys, y.ver ≠ ver) : findV l ver = none := by
  subst hS
  unfold findV
  rw [Option.map_eq_none_iff, List.find?_eq_none]
  intro x hx
  obtain ⟨y, hy, rfl⟩ := List.mem_map.1 hx
  simp [RE.proj, h y hy]
theorem find_some {q : List RE} {y : RE} {l : List Ent} {lab : List UInt8} {ver : Int} {k n : Nat} (hk : k ≤ n) (hS : (q ++ [y]).map RE.proj = mts l lab k) (h : ∀ z ∈ q, z.ver ≠ ver) (hy : y.ver = ver) : findV (mts l lab n) ver = some y.i := by
  obtain ⟨r, hr⟩ := mts_more l lab k (n - k)
  rw [show k + (n - k) = n by omega, ← hS] at hr
  rw [hr]
  unfold findV
  have h1 : (q.map RE.proj).find? (fun x => decide (x.2.1 = ver)) = none := by
    rw [List.find?_eq_none]
    intro x hx
    obtain ⟨z, hz, rfl⟩ := List.mem_map.1 hx
    simp [RE.proj, h z hz]
  rw [List.map_append, List.append_assoc, List.find?_append, h1]
  simp [RE.proj, hy]

set_option maxRecDepth 100000 in
set_option maxHeartbeats 4000000 in
theorem get_any (A : Option Addr) (c : Nat) (k : Bk) (Al : Option Addr) (cl : Nat) (lab : List UInt8) (ver : Int) (w : World) (hA : Ents w w.heap.size A k.ents.length k.ents) (h1 : k.ents.length ≤ c) (h2 : c ≤ maxLen) (hL : Rd w w.heap.size Al lab.length (bvs lab)) :
    Calls Try.prog 13 #[bkv A k.ents.length c k.eps, .slice Al lab.length cl, .int .i64 ver] w fun e w' => e = .returned (.tuple #[.int .i64 (getI k lab ver), .bool (getOk k lab ver)]) ∧ Below w.heap.size w w' := by
  have D0 := Lib.hid ((((BBox.arg hA h1 h2).alloc (.cells #[.int .i64 ver] 3)).alloc (.cells #[.int .i64 0] 3)).alloc (.cells #[.bool false] 4))
  have H1 := Lib.hid h1
  have H2 := Lib.hid h2
  have HL := Lib.hid hL
  have HA := Lib.hid hA
  clear hA hL
  cases hck : checkBk k
  · have hw : getI k lab ver = 0 := by simp [getI, hck]
    have hw2 : getOk k lab ver = false := by simp [getOk, hck]
    rw [hw, hw2]
    have HC := Lib.hid hck
    clear hw hw2 hck
    obtain ⟨ents, eps⟩ := k
    dsimp only at D0 H1
    have e5 : Blk ((((w.alloc (.cells #[.slice A ents.length c, .int .i64 eps] 25)).alloc (.cells #[.int .i64 ver] 3)).alloc (.cells #[.int .i64 0] 3)).alloc (.cells #[.bool false] 4)) (w.heap.size + 1) 3 #[.int .i64 ver] := by
      have := ((Blk.new (w.alloc (.cells #[.slice A ents.length c, .int .i64 eps] 25)) 3 #[.int .i64 ver]).alloc (.cells #[.int .i64 0] 3)).alloc (.cells #[.bool false] 4)
      simpa using this
    have e6 : Blk ((((w.alloc (.cells #[.slice A ents.length c, .int .i64 eps] 25)).alloc (.cells #[.int .i64 ver] 3)).alloc (.cells #[.int .i64 0] 3)).alloc (.cells #[.bool false] 4)) (w.heap.size + 1 + 1) 3 #[.int .i64 0] := by
      have := (Blk.new ((w.alloc (.cells #[.slice A ents.length c, .int .i64 eps] 25)).alloc (.cells #[.int .i64 ver] 3)) 3 #[.int .i64 0]).alloc (.cells #[.bool false] 4)
      simpa using this
    have e7 : Blk ((((w.alloc (.cells #[.slice A ents.length c, .int .i64 eps] 25)).alloc (.cells #[.int .i64 ver] 3)).alloc (.cells #[.int .i64 0] 3)).alloc (.cells #[.bool false] 4)) (w.heap.size + 1 + 1 + 1) 4 #[.bool false] := by
      have := Blk.new (((w.alloc (.cells #[.slice A ents.length c, .int .i64 eps] 25)).alloc (.cells #[.int .i64 ver] 3)).alloc (.cells #[.int .i64 0] 3)) 4 #[.bool false]
      simpa using this
    have hB0 : Below w.heap.size w ((((w.alloc (.cells #[.slice A ents.length c, .int .i64 eps] 25)).alloc (.cells #[.int .i64 ver] 3)).alloc (.cells #[.int .i64 0] 3)).alloc (.cells #[.bool false] 4)) := bel_alloc (bel_alloc (bel_alloc (below_one w _)))
    have E5 := Lib.hid e5
    have E6 := Lib.hid e6
    have E7 := Lib.hid e7
    have HB0 := Lib.hid hB0
    clear e5 e6 e7 hB0
    go_enter Try.func13, Try.ntmps13
    go_wp2_with (go_at_call 15; refine (check_any A c ⟨ents, eps⟩ _ D0.out.ents H1.out H2.out).mono ?_; rw [HC.out]; simp only [errOf]; rintro e w1 ⟨rfl, hB1⟩; have b6 := E6.out.below hB1 E6.out.lt; have b7 := E7.out.below hB1 E7.out.lt; have c6 := b6.cell; have c7 := b7.cell; have f6 := b6.frozen; have f7 := b7.frozen; have b7' := b7.far (p := ⟨w.heap.size + 1 + 1, 0, none⟩) (by simp) (.int .i64 0); have c7' := b7'.cell; have f7' := b7'.frozen)
    refine bodyPost_ret (v := .tuple #[.int .i64 0, .bool false]) (by simp [results, Try.results13, go_sem, c6, c7']) rfl ⟨rfl, ?_⟩
    have := keepB hB1 HB0.out
    exact (this.setCell (p := ⟨w.heap.size + 1 + 1, 0, none⟩) (by simp; omega) _).setCell (p := ⟨w.heap.size + 1 + 1 + 1, 0, none⟩) (by simp; omega) _
  · have HC := Lib.hid hck
    have hlen : k.ents.length ≤ 72 := by simp [checkBk] at hck; omega
    have hgi : getI k lab ver = ((findV (mts k.ents lab k.ents.length) ver).getD 0 : Nat) := by simp [getI, hck]
    have hgo : getOk k lab ver = (findV (mts k.ents lab k.ents.length) ver).isSome := by simp [getOk, hck]
    rw [hgi, hgo]
    clear hck hgi hgo
    obtain ⟨ents, eps⟩ := k
    dsimp only at D0 H1 hlen HA ⊢
    have e5 : Blk ((((w.alloc (.cells #[.slice A ents.length c, .int .i64 eps] 25)).alloc (.cells #[.int .i64 ver] 3)).alloc (.cells #[.int .i64 0] 3)).alloc (.cells #[.bool false] 4)) (w.heap.size + 1) 3 #[.int .i64 ver] := by
      have := ((Blk.new (w.alloc (.cells #[.slice A ents.length c, .int .i64 eps] 25)) 3 #[.int .i64 ver]).alloc (.cells #[.int .i64 0] 3)).alloc (.cells #[.bool false] 4)
      simpa using this
    have e6 : Blk ((((w.alloc (.cells #[.slice A ents.length c, .int .i64 eps] 25)).alloc (.cells #[.int .i64 ver] 3)).alloc (.cells #[.int .i64 0] 3)).alloc (.cells #[.bool false] 4)) (w.heap.size + 1 + 1) 3 #[.int .i64 0] := by
      have := (Blk.new ((w.alloc (.cells #[.slice A ents.length c, .int .i64 eps] 25)).alloc (.cells #[.int .i64 ver] 3)) 3 #[.int .i64 0]).alloc (.cells #[.bool false] 4)
      simpa using this
    have e7 : Blk ((((w.alloc (.cells #[.slice A ents.length c, .int .i64 eps] 25)).alloc (.cells #[.int .i64 ver] 3)).alloc (.cells #[.int .i64 0] 3)).alloc (.cells #[.bool false] 4)) (w.heap.size + 1 + 1 + 1) 4 #[.bool false] := by
      have := Blk.new (((w.alloc (.cells #[.slice A ents.length c, .int .i64 eps] 25)).alloc (.cells #[.int .i64 ver] 3)).alloc (.cells #[.int .i64 0] 3)) 4 #[.bool false]
      simpa using this
    have hB0 : Below w.heap.size w ((((w.alloc (.cells #[.slice A ents.length c, .int .i64 eps] 25)).alloc (.cells #[.int .i64 ver] 3)).alloc (.cells #[.int .i64 0] 3)).alloc (.cells #[.bool false] 4)) := bel_alloc (bel_alloc (bel_alloc (below_one w _)))
    have E5 := Lib.hid e5
    have E6 := Lib.hid e6
    have E7 := Lib.hid e7
    have HB0 := Lib.hid hB0
    clear e5 e6 e7 hB0
    have hx1 : 1 ≤ 5 := by omega
    refine (callsIn_wide (n := 5)).1 ?_
    refine callsIn_of_wp_marks Try.func13 rfl trivial ?_ rfl
    simp only [Try.ntmps13, List.size_toArray, List.length_cons, List.length_nil, Nat.reduceAdd, Nat.reduceSub, Array.replicate_succ, Array.replicate_zero, List.push_toArray, List.append_toArray, List.nil_append, List.cons_append]
    gi_wp2_with (first
      | (refine ⟨trivial, ?_⟩; gi_at_call 15; refine (callsIn_wide.2 (check_any A c ⟨ents, eps⟩ _ D0.out.ents H1.out H2.out)).mono ?_; rw [HC.out]; simp only [errOf]; rintro e w1 ⟨rfl, hB1⟩; have d1 := Lib.hid (D0.out.after hB1); have b1 := d1.out.blk.cell)
      | (refine ⟨trivial, ?_⟩; gi_at_call 27; refine (of_in _ A ents.length c eps Al lab.length cl _).mono ?_; rintro e w2 ⟨rfl, rfl⟩))
    have hBw := keepB hB1 HB0.out
    have hsw : w.heap.size + 4 ≤ w1.heap.size := by have := hB1.size; simp at this; omega
    have e5 : Blk ((w1.alloc (.cells #[.slice A ents.length c, .int .i64 eps] 25)).alloc (.cells #[.slice Al lab.length cl] 26)) (w.heap.size + 1) 3 #[.int .i64 ver] := ((E5.out.below hB1 E5.out.lt).alloc _).alloc _
    have e6 : Blk ((w1.alloc (.cells #[.slice A ents.length c, .int .i64 eps] 25)).alloc (.cells #[.slice Al lab.length cl] 26)) (w.heap.size + 1 + 1) 3 #[.int .i64 0] := ((E6.out.below hB1 E6.out.lt).alloc _).alloc _
    have e7 : Blk ((w1.alloc (.cells #[.slice A ents.length c, .int .i64 eps] 25)).alloc (.cells #[.slice Al lab.length cl] 26)) (w.heap.size + 1 + 1 + 1) 4 #[.bool false] := ((E7.out.below hB1 E7.out.lt).alloc _).alloc _
    have kb : Blk ((w1.alloc (.cells #[.slice A ents.length c, .int .i64 eps] 25)).alloc (.cells #[.slice Al lab.length cl] 26)) w1.heap.size 25 #[.slice A ents.length c, .int .i64 eps] := (Blk.new w1 _ _).alloc _
    have kl : Blk ((w1.alloc (.cells #[.slice A ents.length c, .int .i64 eps] 25)).alloc (.cells #[.slice Al lab.length cl] 26)) (w1.heap.size + 1) 26 #[.slice Al lab.length cl] := by
      have := Blk.new (w1.alloc (.cells #[.slice A ents.length c, .int .i64 eps] 25)) 26 #[.slice Al lab.length cl]
      simpa using this
    have kB : Below w.heap.size w ((w1.alloc (.cells #[.slice A ents.length c, .int .i64 eps] 25)).alloc (.cells #[.slice Al lab.length cl] 26)) := bel_alloc (bel_alloc hBw)
    have kS : (((w1.alloc (.cells #[.slice A ents.length c, .int .i64 eps] 25)).alloc (.cells #[.slice Al lab.length cl] 26))).heap.size = w1.heap.size + 2 := by simp
    generalize ((w1.alloc (.cells #[.slice A ents.length c, .int .i64 eps] 25)).alloc (.cells #[.slice Al lab.length cl] 26)) = W0 at e5 e6 e7 kb kl kB kS ⊢
    have hs4 : w1.heap.size + 2 ≤ W0.heap.size := by omega
    clear b1 hB1 D0 d1 hBw kS E5 E6 E7
    refine wpIn_rangeFunc_ownH rfl hx1 (gf := 41) (lb := #[.pointer (some ⟨w1.heap.size, 0, none⟩), .pointer (some ⟨w1.heap.size + 1, 0, none⟩)]) rfl trivial (enters_of Try.func41 (by kernel_rfl) rfl)
      (of_stops 4 (by omega) w1.heap.size (w1.heap.size + 1) w.heap.size A c eps ents Al cl lab (by omega) W0 (by omega) (kb.cell 0) (kl.cell 0) (by omega) (by omega) (HA.out.below kB) (HL.out.below kB))
      KpL.trans (fun W l o o' hl h hc hw => ⟨belowK_b (w := W0) (by omega) W l o o' hl h hc hw, ?hsame⟩) (Below.refl _ _) (fun _ => rfl)
      (fun pre W => (((∀ y ∈ pre, y.ver ≠ ver) ∧ Blk W (w.heap.size + 1) 3 #[.int .i64 ver] ∧ Blk W (w.heap.size + 1 + 1) 3 #[.int .i64 0] ∧ Blk W (w.heap.size + 1 + 1 + 1) 4 #[.bool false]) ∧ Below w.heap.size w W) ∧ w1.heap.size + 2 ≤ W.heap.size)
      (fun c pre W => (c = .ret ∧ ∃ (q : List RE) (y : RE), pre = q ++ [y] ∧ (∀ z ∈ q, z.ver ≠ ver) ∧ y.ver = ver ∧ Blk W (w.heap.size + 1 + 1) 3 #[.int .i64 (y.i : Int)] ∧ Blk W (w.heap.size + 1 + 1 + 1) 4 #[.bool true]) ∧ Below w.heap.size w W)
      (OwnFrom.and (OwnFrom.and (Own.from (fun s A B row hs hg hr => ⟨hs.1, blk_own hs.2.1 hg hr, blk_own hs.2.2.1 hg hr, blk_own hs.2.2.2 hg hr⟩) _) (ownFrom_below (Nat.le_refl _) (by omega))) (fun s A B row hs hg hr => Nat.le_trans hs hg.size))
      (fun c => OwnFrom.and (Own.from (fun s A B row hs hg hr => by obtain ⟨g0, q, y, g1, g2, g3, g4, g5⟩ := hs; exact ⟨g0, q, y, g1, g2, g3, blk_own g4 hg hr, blk_own g5 hg hr⟩) _) (ownFrom_below (Nat.le_refl _) (by omega)))
      ⟨⟨⟨by simp, e5, e6, e7⟩, kB⟩, hs4⟩
      (fun x a' W => ∃ Bx, w1.heap.size + 2 ≤ Bx ∧ Blk W Bx 49 #[.slice x.Al x.nl x.cl, .slice x.Av x.nv x.cv, .int .i64 x.ver, .int .i64 x.ep, .bool x.er] ∧ a' = { tmps := #[bkv A ents.length c eps, .slice Al lab.length cl, .int .i64 ver, .pointer (some ⟨w.heap.size, 0, none⟩), undef, .pointer (some ⟨w.heap.size + 1, 0, none⟩), .pointer (some ⟨w.heap.size + 1 + 1, 0, none⟩), .pointer (some ⟨w.heap.size + 1 + 1 + 1, 0, none⟩), .int .i64 (x.i : Int), .pointer (some ⟨Bx, 0, none⟩), .agg #[.slice A ents.length c, .int .i64 eps], .int .i64 0, .bool false, .agg #[.slice A ents.length c, .int .i64 eps], .slice Al lab.length cl, .func (.func 41) #[] #[.pointer (some ⟨w1.heap.size, 0, none⟩), .pointer (some ⟨w1.heap.size + 1, 0, none⟩)], .int .i64 (x.i : Int), x.val, undef, undef, undef, undef, undef], defers := [] })
      (fun x a' s A B row hs hg hr => by obtain ⟨Bx, g1, g2, g3⟩ := hs; exact ⟨Bx, g1, blk_own g2 hg (fun r e => (hr r e).2), g3⟩)
      ?assign ?body ?done ?stop
    case hsame =>
      have hlt := (Array.getElem?_eq_some_iff.1 h).1
      exact (grownBy_putObj' W l o').block _ (by omega) (by simp; omega)
    case assign =>
      rintro l pre x W K ⟨⟨⟨g0, g5, g6, g7⟩, hB⟩, hsz⟩ hK
      gi_wp2
      exact hK _ _ ((KeepsOthers.alloc _ _).from _) ⟨(Below.refl _ W).alloc (by omega) _, Below.heap_alloc W _ _ (by omega)⟩ ⟨⟨⟨g0, g5.alloc _, g6.alloc _, g7.alloc _⟩, bel_alloc hB⟩, by simp; omega⟩ ⟨W.heap.size, hsz, Blk.new W _ _, rfl⟩
    case body =>
      rintro l pre x a' W hl ⟨r, hr⟩ ⟨⟨⟨g0, g5, g6, g7⟩, hB⟩, hsz⟩ ⟨Bx, hBx, bX, rfl⟩ hlt
      have c5 := g5.cell
      have c6 := g6.cell
      have c7 := g7.cell
      have f6 := g6.frozen
      have f7 := g7.frozen
      have cX := bX.cell
      have g7' := g7.far (p := ⟨w.heap.size + 1 + 1, 0, none⟩) (by simp) (.int .i64 (x.i : Int))
      have c7' := g7'.cell
      have f7' := g7'.frozen
      have G0 := Lib.hid g0
      have G5 := Lib.hid g5
      have G6 := Lib.hid g6
      have G7 := Lib.hid g7
      have G7' := Lib.hid g7'
      clear g0 g5 g6 g7 g7'
      by_cases hv : x.ver = ver
      · have hvb : (x.ver == ver) = true := by simpa using hv
        have HV := Lib.hid hv
        clear hv
        gi_wp2
        refine ⟨((KeepsOthers.setCell _ _ _).trans (KeepsOthers.setCell _ _ _)).from _, ⟨rfl, pre, x, rfl, G0.out, HV.out, ?_, ?_⟩, (hB.setCell (p := ⟨w.heap.size + 1 + 1, 0, none⟩) (by simp; omega) _).setCell (p := ⟨w.heap.size + 1 + 1 + 1, 0, none⟩) (by simp; omega) _⟩
        · have := (G6.out.set_ 0 (.int .i64 (x.i : Int))).far (p := ⟨w.heap.size + 1 + 1 + 1, 0, none⟩) (by simp) (.bool true)
          simpa using this
        · simpa using G7'.out.set_ 0 (.bool true)
      · have hvb : (x.ver == ver) = false := by simpa using hv
        have HV := Lib.hid hv
        clear hv
        gi_wp2
        refine ⟨KeepsFrom.refl _ _, ⟨Below.refl _ _, rfl⟩, ⟨⟨⟨fun y hy => ?_, G5.out, G6.out, G7.out⟩, hB⟩, hsz⟩⟩
        rcases List.mem_append.1 hy with h | h
        · exact G0.out y h
        · simp at h
          subst h
          exact HV.out
    case done =>
      rintro D ys W hD hS ⟨⟨⟨g0, g5, g6, g7⟩, hB⟩, hsz⟩ hK
      have c6 := g6.cell
      have c7 := g7.cell
      have f6 := g6.frozen
      have f7 := g7.frozen
      have g7' := g7.far (p := ⟨w.heap.size + 1 + 1, 0, none⟩) (by simp) (.int .i64 0)
      have c7' := g7'.cell
      have f7' := g7'.frozen
      gi_wp2
      have hK' := ((KeepsOthers.setCell W ⟨w.heap.size + 1 + 1, 0, none⟩ (.int .i64 0)).trans (KeepsOthers.setCell _ ⟨w.heap.size + 1 + 1 + 1, 0, none⟩ (.bool false))).same D _ hK rfl
      refine ⟨by simp, .inl ⟨_, _, rfl, run_takeDeferred hK', ?_⟩⟩
      have p6 := blk_own ((g6.set_ 0 (.int .i64 0)).far (p := ⟨w.heap.size + 1 + 1 + 1, 0, none⟩) (by simp) (.bool false)) (grownBy_putObj' _ D (.deferred none)) (fun r e => by cases e; exact ⟨_, hK', rfl⟩)
      have p7 := blk_own (g7'.set_ 0 (.bool false)) (grownBy_putObj' _ D (.deferred none)) (fun r e => by cases e; exact ⟨_, hK', rfl⟩)
      have q6 := p6.cell 0
      have q7 := p7.cell 0
      have hf := find_none hS g0
      refine ⟨.tuple #[.int .i64 0, .bool false], ?_, by rw [hf]; rfl, ((hB.setCell (p := ⟨w.heap.size + 1 + 1, 0, none⟩) (by simp; omega) _).setCell (p := ⟨w.heap.size + 1 + 1 + 1, 0, none⟩) (by simp; omega) _).trans (belowK_b (w := W0) (by omega) _ D _ _ hD hK' rfl rfl)⟩
      simp [results, Try.f13, go_sem, q6, q7]
    case stop =>
      rintro D c pre W hD ⟨k, hk, hS⟩ ⟨⟨rfl, q, y, rfl, g1, g2, g3, g4⟩, hB⟩ hK
      gi_wp2
      refine ⟨by simp, .inl ⟨_, _, rfl, run_takeDeferred hK, ?_⟩⟩
      have p6 := blk_own g3 (grownBy_putObj' _ D (.deferred none)) (fun r e => by cases e; exact ⟨_, hK, rfl⟩)
      have p7 := blk_own g4 (grownBy_putObj' _ D (.deferred none)) (fun r e => by cases e; exact ⟨_, hK, rfl⟩)
      have q6 := p6.cell 0
      have q7 := p7.cell 0
      have hf := find_some hk hS g1 g2
      refine ⟨.tuple #[.int .i64 (y.i : Int), .bool true], ?_, by rw [hf]; rfl, hB.trans (belowK_b (w := W0) (by omega) _ D _ _ hD hK rfl rfl)⟩
      simp [results, Try.f13, go_sem, q6, q7]
end Go.Proofs.Ytkiijbbcfbkecaa
