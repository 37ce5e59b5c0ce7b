/- The document's Erase. -/
import Derived.Test.YtkiijbbcfbkecaaC2
import Derived.Test.YtkiijbbcfbkecaaJ3
namespace Go.Proofs.Ytkiijbbcfbkecaa
open Go.RowKit
set_option linter.unusedVariables false
set_option linter.unusedSimpArgs false

theorem rera_mid {w X : World} {base G cap i : Nat} {xs : List Value} {ents : List Ent} {x : Ent} (hX : Below w.heap.size w X) (hb : w.heap.size ≤ base) (hG : base ≤ G) (o1 : OwnE X base (.slice (some ⟨G, 0, none⟩) ents.length cap) xs ents) (hx : ents[i]? = some x) :
    (∃ ys, OwnE ((X.setCell ⟨G, i * 5 + 1, none⟩ (.slice none 0 0)).setCell ⟨G, i * 5 + 4, none⟩ (.bool true)) base (.slice (some ⟨G, 0, none⟩) ents.length cap) ys (ents.set i { x with er := true, value := [] })) ∧
    Below w.heap.size w ((X.setCell ⟨G, i * 5 + 1, none⟩ (.slice none 0 0)).setCell ⟨G, i * 5 + 4, none⟩ (.bool true)) ∧
    (∀ g cs, Blk X g 25 cs → Blk (X.setCell ⟨G, i * 5 + 1, none⟩ (.slice none 0 0)) g 25 cs ∧ Blk ((X.setCell ⟨G, i * 5 + 1, none⟩ (.slice none 0 0)).setCell ⟨G, i * 5 + 4, none⟩ (.bool true)) g 25 cs) := by
  have hi := (List.getElem?_eq_some_iff.1 hx).1
  obtain ⟨cur, hg⟩ := o1.blk rfl
  obtain ⟨o2, g2⟩ := o1.setNil hx
  have hx2 : (ents.set i { x with value := [] })[i]? = some { x with value := [] } := List.getElem?_set_self hi
  obtain ⟨o3, g3⟩ := o2.setEr hx2 true
  rw [List.set_set] at o3
  refine ⟨⟨_, o3⟩, (hX.setCell (p := ⟨G, i * 5 + 1, none⟩) (Nat.le_trans hb hG) _).setCell (p := ⟨G, i * 5 + 4, none⟩) (Nat.le_trans hb hG) _, fun g cs hbk => ?_⟩
  have hne : g ≠ G := blk_ne hbk hg (by decide)
  exact ⟨hbk.far (p := ⟨G, i * 5 + 1, none⟩) hne _, (hbk.far (p := ⟨G, i * 5 + 1, none⟩) hne _).far (p := ⟨G, i * 5 + 4, none⟩) hne _⟩

set_option maxRecDepth 100000 in
set_option maxHeartbeats 8000000 in
theorem rerase_any (A : Option Addr) (c : Nat) (k : Bk) (Al : Option Addr) (cl : Nat) (lab : List UInt8) (ver : Int) (w : World) (hA : Ents w w.heap.size A k.ents.length k.ents) (h1 : k.ents.length ≤ c) (h2 : c ≤ maxLen) (hs : SmE k.ents)
    (hL : Rd w w.heap.size Al lab.length (bvs lab)) :
    Calls Try.prog 24 #[bkv A k.ents.length c k.eps, .slice Al lab.length cl, .int .i64 ver] w (BkRet w (eraK k lab ver) (withErr (eraE k lab ver))) := by
  have hgi := getI_eq k lab ver
  have hgo := getOk_eq k lab ver
  obtain ⟨pe, hpe⟩ : ∃ pe, pe = eraE k lab ver := ⟨_, rfl⟩
  obtain ⟨pk, hpk⟩ : ∃ pk, pk = eraK k lab ver := ⟨_, rfl⟩
  have hkp : pe ≠ 0 → pk = k := fun h => by rw [hpk]; exact era_keep (by rw [← hpe]; exact h)
  rw [← hpe, ← hpk]
  obtain ⟨gn, hgn⟩ : ∃ gn, gn = getN k lab ver := ⟨_, rfl⟩
  have hgl : checkBk k = true → ∀ i, gn = some i → i < k.ents.length ∧ ∃ x, k.ents[i]? = some x ∧ x.label = lab ∧ x.ver = ver := by
    intro hck i h
    rw [hgn] at h
    unfold getN at h
    rw [hck, if_pos rfl] at h
    exact getP_lt h
  rw [← hgn] at hgi hgo
  have hlen := hs.1
  have HGI := Lib.hid hgi
  have HGO := Lib.hid hgo
  have HGN := Lib.hid hgn
  have HGL := Lib.hid hgl
  have HPE := Lib.hid hpe
  have HPK0 := Lib.hid hpk
  have HKP := Lib.hid hkp
  have HA := Lib.hid hA
  have HS := Lib.hid hs
  have H1 := Lib.hid h1
  have H2 := Lib.hid h2
  have HLb := Lib.hid hL
  have HT := Lib.hid (two_bk hA h1 h2)
  clear hpe hpk hkp hgi hgo hgn hgl hA hs h1 h2 hL
  go_enter Try.func24, Try.ntmps24
  go_upto_region 1 with (fail)
  generalize ((w.alloc (.cells #[.slice A k.ents.length c, .int .i64 k.eps] 25)).alloc (.cells zbk 25)) = W1 at HT ⊢
  obtain ⟨d1, z1, hB1, hsz1⟩ := HT.out
  obtain ⟨q0, q1⟩ := d1.cells
  have D1 := Lib.hid d1
  have Z1 := Lib.hid z1
  have HB1 := Lib.hid hB1
  have hsw : w.heap.size + 2 ≤ W1.heap.size := by omega
  clear HT d1 z1 hB1 hsz1
  go_upto_region 2 with (go_at_call 37; refine (rcopy_any A c k _ D1.out.ents H1.out H2.out HS.out).mono ?_; rintro e w2 ⟨AA1, cc1, xs, rfl, hO2, hB2⟩)
  have o3 := OBox.new (k := k) hO2 (Nat.le_trans (by omega : w.heap.size ≤ W1.heap.size) (Nat.le_refl _))
  have hB3 := bel_alloc (o := .cells #[.slice AA1 k.ents.length cc1, .int .i64 k.eps] 25) hB2
  have hsb := hB2.size
  generalize (w2.alloc (.cells #[.slice AA1 k.ents.length cc1, .int .i64 k.eps] 25)) = W3 at o3 hB3 ⊢
  obtain ⟨bo, hbo⟩ : ∃ bo, bo = w2.heap.size := ⟨_, rfl⟩
  rw [← hbo] at o3 hsb ⊢
  have hbo1 : w.heap.size + 2 ≤ bo := by omega
  have O3 := Lib.hid o3
  have D3 := Lib.hid (D1.out.after hB3)
  have Z3 := Lib.hid (Z1.out.below hB3 Z1.out.lt)
  have HB3 := Lib.hid (keepB hB3 HB1.out)
  obtain ⟨q0, q1⟩ := D3.out.cells
  clear hO2 hB2 hbo hB3 o3 D1 Z1 HB1 hsb hsw
  cases hck : checkBk k
  · have hpe : pe = 190 := by rw [HPE.out]; unfold eraE; rw [hck]; rfl
    have HP := Lib.hid hpe
    have HPK := Lib.hid (HKP.out (by rw [hpe]; decide))
    have HCK := Lib.hid hck
    clear hck hpe
    go_wp2_with (go_at_call 16; refine (rcheck_any A c k _ D3.out.ents D3.out.cap D3.out.cm).mono ?_; rw [HCK.out]; simp only [errOf, Bool.false_eq_true, if_false]; rintro e w4 ⟨rfl, hB4⟩; have z4 := Z3.out.below hB4 Z3.out.lt; have o4 := O3.out.after hB4; have q2 := o4.blk.cell; have q3 := z4.cell; have q4 := z4.frozen; have Z4 := Lib.hid z4; have O4 := Lib.hid o4; have HB4 := Lib.hid (keepB hB4 HB3.out); clear hB4 z4 o4)
    refine bodyPost_ret (v := withErr 190 (bkv AA1 k.ents.length cc1 k.eps)) (by simp [results, Try.results24, go_sem, q3]) rfl ?_
    rw [HP.out, HPK.out]
    exact ret_at (withErr 190) HB4.out Z4.out (by omega) O4.out.own (by omega)
  · have HCK := Lib.hid hck
    have HGL2 := Lib.hid (HGL.out hck)
    have hpe2 := HPE.out
    unfold eraE at hpe2
    rw [hck, if_pos rfl, ← HGN.out] at hpe2
    have HPE2 := Lib.hid hpe2
    clear hck hpe2
    rcases gn with _ | i
    · have hpe : pe = 192 := HPE2.out
      have HP := Lib.hid hpe
      have HPK := Lib.hid (HKP.out (by rw [hpe]; decide))
      clear hpe
      go_wp2_with (first
        | (go_at_call 16; refine (rcheck_any A c k _ D3.out.ents D3.out.cap D3.out.cm).mono ?_; rw [HCK.out]; simp only [errOf, if_true]; rintro e w4 ⟨rfl, hB4⟩; have D4 := Lib.hid (D3.out.after hB4); have HB4 := Lib.hid (keepB hB4 HB3.out); have HB34 := Lib.hid hB4; obtain ⟨q2, q3⟩ := D4.out.cells; clear hB4)
        | (go_at_call 14; refine (rget_any A c k Al cl lab ver _ D4.out.ents D4.out.cap D4.out.cm (rd_after HLb.out HB4.out)).mono ?_; rw [HGI.out, HGO.out]; rintro e w5 ⟨rfl, hB5⟩; have HB5 := Lib.hid (keepB hB5 HB34.out); have z5 := Z3.out.below HB5.out Z3.out.lt; have o5 := O3.out.after HB5.out; have d5 := D3.out.after HB5.out; have r2 := o5.blk.cell; have r3 := z5.cell; have r4 := z5.frozen; obtain ⟨r5, r6⟩ := d5.cells; have Z5 := Lib.hid z5; have O5 := Lib.hid o5; have D5 := Lib.hid d5; have HBW := Lib.hid (keepB HB5.out HB3.out); clear hB5 z5 o5 d5 q2 q3))
      refine bodyPost_ret (v := withErr 192 (bkv AA1 k.ents.length cc1 k.eps)) (by simp [results, Try.results24, go_sem, r3]) rfl ?_
      rw [HP.out, HPK.out]
      exact ret_at (withErr 192) HBW.out Z5.out (by omega) O5.out.own (by omega)
    · obtain ⟨hi, x, hx, _, _⟩ := HGL2.out i rfl
      have HX := Lib.hid hx
      have hk0 : (0 : Int) ≤ (i : Int) := by omega
      have hk1 : (i : Int) < (k.ents.length : Int) := by omega
      have hep : epAt k.ents i = x.ep := by unfold epAt; rw [hx]
      have hpe2 : pe = if x.ep = 0 then 192 else 0 := by rw [HPE2.out]; simp only [hep]
      have HPE3 := Lib.hid hpe2
      clear hx hpe2 hep
      by_cases h0 : x.ep = 0
      · have hpe : pe = 192 := by rw [HPE3.out, if_pos h0]
        have HP := Lib.hid hpe
        have HPK := Lib.hid (HKP.out (by rw [hpe]; decide))
        have h0b : (x.ep == 0) = true := by simp [h0]
        clear hpe h0
        go_wp2_with (first
          | (go_at_call 16; refine (rcheck_any A c k _ D3.out.ents D3.out.cap D3.out.cm).mono ?_; rw [HCK.out]; simp only [errOf, if_true]; rintro e w4 ⟨rfl, hB4⟩; have D4 := Lib.hid (D3.out.after hB4); have HB4 := Lib.hid (keepB hB4 HB3.out); have HB34 := Lib.hid hB4; obtain ⟨q2, q3⟩ := D4.out.cells; clear hB4)
          | (go_at_call 14; refine (rget_any A c k Al cl lab ver _ D4.out.ents D4.out.cap D4.out.cm (rd_after HLb.out HB4.out)).mono ?_; rw [HGI.out, HGO.out]; rintro e w5 ⟨rfl, hB5⟩; have HB5 := Lib.hid (keepB hB5 HB34.out); have z5 := Z3.out.below HB5.out Z3.out.lt; have o5 := O3.out.after HB5.out; have d5 := D3.out.after HB5.out; have r2 := o5.blk.cell; have r3 := z5.cell; have r4 := z5.frozen; obtain ⟨r5, r6⟩ := d5.cells; have Z5 := Lib.hid z5; have O5 := Lib.hid o5; have D5 := Lib.hid d5; have HBW := Lib.hid (keepB HB5.out HB3.out); clear hB5 z5 o5 d5 q2 q3; obtain ⟨xb, xo, x', Ax, cx, Ay, cy, hAx, hbx, hx', k1, k2, k3, k4, k5, p1, p2, p3, s1, s2, s3⟩ := D5.out.ents.at_ hi; rw [HX.out] at hx'; injection hx' with hx'; subst hx'; clear p3 s3))
        refine bodyPost_ret (v := withErr 192 (bkv AA1 k.ents.length cc1 k.eps)) (by simp [results, Try.results24, go_sem, r3]) rfl ?_
        rw [HP.out, HPK.out]
        exact ret_at (withErr 192) HBW.out Z5.out (by omega) O5.out.own (by omega)
      · have hpe : pe = 0 := by rw [HPE3.out, if_neg h0]
        have hpk : pk = ⟨k.ents.set i { x with er := true, value := [] }, k.eps⟩ := by
          rw [HPK0.out]; unfold eraK; rw [if_pos (by rw [← HPE.out]; exact hpe), ← HGN.out]; simp only [Option.getD_some, eraL, HX.out]
        have HP := Lib.hid hpe
        have HPK := Lib.hid hpk
        have h0b : (x.ep == 0) = false := by simpa using h0
        clear hpe h0 hpk
        go_upto_region 7 with (first
          | (go_at_call 16; refine (rcheck_any A c k _ D3.out.ents D3.out.cap D3.out.cm).mono ?_; rw [HCK.out]; simp only [errOf, if_true]; rintro e w4 ⟨rfl, hB4⟩; have D4 := Lib.hid (D3.out.after hB4); have HB4 := Lib.hid (keepB hB4 HB3.out); have HB34 := Lib.hid hB4; obtain ⟨q2, q3⟩ := D4.out.cells; clear hB4)
          | (go_at_call 14; refine (rget_any A c k Al cl lab ver _ D4.out.ents D4.out.cap D4.out.cm (rd_after HLb.out HB4.out)).mono ?_; rw [HGI.out, HGO.out]; rintro e w5 ⟨rfl, hB5⟩; have HB5 := Lib.hid (keepB hB5 HB34.out); have z5 := Z3.out.below HB5.out Z3.out.lt; have o5 := O3.out.after HB5.out; have d5 := D3.out.after HB5.out; have r2 := o5.blk.cell; have r3 := z5.cell; have r4 := z5.frozen; obtain ⟨r5, r6⟩ := d5.cells; have Z5 := Lib.hid z5; have O5 := Lib.hid o5; have D5 := Lib.hid d5; have HBW := Lib.hid (keepB HB5.out HB3.out); clear hB5 z5 o5 d5 q2 q3; obtain ⟨xb, xo, x', Ax, cx, Ay, cy, hAx, hbx, hx', k1, k2, k3, k4, k5, p1, p2, p3, s1, s2, s3⟩ := D5.out.ents.at_ hi; rw [HX.out] at hx'; injection hx' with hx'; subst hx'; clear p3 s3))
        clear k1 k2 k3 k4 k5 hAx r5 r6
        obtain ⟨G, cap, x'', Al', cl', Av', cv', hVV, hq1, hq2, hGb, hGl, hx'', g1, g2, g3, g4, g5, gf⟩ := O5.out.own.at_ hi
        clear g1 g3 g4 hx''
        simp only [Value.slice.injEq, true_and] at hVV
        obtain ⟨rfl, rfl⟩ := hVV
        have M := rera_mid HBW.out (by omega) hGb O5.out.own HX.out
        obtain ⟨⟨ys, M1⟩, M2, M3⟩ := M
        have c1 := (M3 _ _ O5.out.blk).1.cell
        have bO := (M3 _ _ O5.out.blk).2
        have bZ := (M3 _ _ Z5.out).2
        have MM1 := Lib.hid M1
        have MM2 := Lib.hid M2
        have BO := Lib.hid bO
        have BZ := Lib.hid bZ
        clear M1 M2 M3 bO bZ q0 q1
        go_upto_region 9 with (fail)
        clear c1 gf g2 g5 r2 r3 r4
        generalize ((w5.setCell ⟨G, i * 5 + 1, none⟩ (.slice none 0 0)).setCell ⟨G, i * 5 + 4, none⟩ (.bool true)) = Xf at MM1 MM2 BO BZ ⊢
        have cO := BO.out.cell
        have cZ := BZ.out.cell
        have fZ := BZ.out.frozen
        go_wp2
        refine bodyPost_ret (v := withErr 0 (bkv (some ⟨G, 0, none⟩) k.ents.length cc1 k.eps)) (by simp [results, Try.results24, go_sem, cZ]) rfl ?_
        rw [HP.out, HPK.out]
        have hl9 : (k.ents.set i { x with er := true, value := [] }).length = k.ents.length := List.length_set
        have R := ret_at (k := ⟨k.ents.set i { x with er := true, value := [] }, k.eps⟩) (A := some ⟨G, 0, none⟩) (c := cc1) (xs := ys) (withErr 0) MM2.out BZ.out (by omega) (by dsimp only; rw [hl9]; exact MM1.out) (by omega)
        simp only [hl9] at R
        exact R
end Go.Proofs.Ytkiijbbcfbkecaa
