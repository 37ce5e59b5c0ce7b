/- Publish, Erase, Tick. -/
import Derived.Test.YtkiijbbcfbkecaaJ4
import Derived.Shelf.Abstract
namespace Go.Proofs.Ytkiijbbcfbkecaa
open Go.RowKit Go.Shelf
set_option linter.unusedVariables false

theorem pub_keep {k : Bk} {lab val : List UInt8} (h : pubE k lab val ≠ 0) : pubK k lab val = k := by unfold pubK; rw [if_neg h]
theorem era_keep {k : Bk} {lab : List UInt8} {ver : Int} (h : eraE k lab ver ≠ 0) : eraK k lab ver = k := by unfold eraK; rw [if_neg h]
theorem tick_keep {k : Bk} (h : tickE k ≠ 0) : tickK k = k ∧ tickPl k = [] := by unfold tickK tickPl; rw [if_neg h, if_neg h]; exact ⟨rfl, rfl⟩
theorem ch_pub (k : Bk) (lab val : List UInt8) : chE k (pubE k lab val) = pubE k lab val := by
  unfold chE pubE
  cases checkBk k <;> rfl
theorem ch_era (k : Bk) (lab : List UInt8) (ver : Int) : chE k (eraE k lab ver) = eraE k lab ver := by
  unfold chE eraE
  cases checkBk k <;> rfl
theorem ch_tick (k : Bk) : chE k (tickE k) = tickE k := by
  unfold chE tickE
  cases checkBk k <;> rfl
/-- Both ends of a change, in one. -/
theorem ch_all {Kp : World → Prop} {X w2 : World} {k kf : Bk} {ef : Int} {e : Ending} (h : ChRet Kp X k kf ef e w2) (hk : ef ≠ 0 → kf = k) :
    ∃ A c xs, e = .returned (withErr ef (bkv A kf.ents.length c kf.eps)) ∧ OwnE w2 X.heap.size (.slice A kf.ents.length c) xs kf.ents ∧ (ef ≠ 0 → Below X.heap.size X w2) ∧ (ef = 0 → Kp w2) := by
  by_cases h0 : ef = 0
  · obtain ⟨A, c, xs, h1, h2, h3⟩ := h.2 h0
    exact ⟨A, c, xs, by rw [h1, h0], h2, fun hn => absurd h0 hn, fun _ => h3⟩
  · obtain ⟨A, c, xs, h1, h2, h3⟩ := h.1 h0
    rw [hk h0]
    exact ⟨A, c, xs, h1, h2, fun _ => h3, fun hn => absurd hn h0⟩
theorem four_boxes (w : World) (a b c d : Array Value) (ta tb tc td : TypeId) :
    Blk ((((w.alloc (.cells a ta)).alloc (.cells b tb)).alloc (.cells c tc)).alloc (.cells d td)) w.heap.size ta a ∧ Blk ((((w.alloc (.cells a ta)).alloc (.cells b tb)).alloc (.cells c tc)).alloc (.cells d td)) (w.heap.size + 1) tb b ∧
    Blk ((((w.alloc (.cells a ta)).alloc (.cells b tb)).alloc (.cells c tc)).alloc (.cells d td)) (w.heap.size + 1 + 1) tc c ∧ Blk ((((w.alloc (.cells a ta)).alloc (.cells b tb)).alloc (.cells c tc)).alloc (.cells d td)) (w.heap.size + 1 + 1 + 1) td d ∧
    Below w.heap.size w ((((w.alloc (.cells a ta)).alloc (.cells b tb)).alloc (.cells c tc)).alloc (.cells d td)) ∧ ((((w.alloc (.cells a ta)).alloc (.cells b tb)).alloc (.cells c tc)).alloc (.cells d td)).heap.size = w.heap.size + 4 := by
  refine ⟨(((Blk.new w ta a).alloc _).alloc _).alloc _, ?_, ?_, ?_, bel_alloc (bel_alloc (bel_alloc (below_one w _))), by simp⟩
  · have := ((Blk.new (w.alloc (.cells a ta)) tb b).alloc (.cells c tc)).alloc (.cells d td)
    simpa using this
  · have := (Blk.new ((w.alloc (.cells a ta)).alloc (.cells b tb)) tc c).alloc (.cells d td)
    simpa using this
  · have := Blk.new (((w.alloc (.cells a ta)).alloc (.cells b tb)).alloc (.cells c tc)) td d
    simpa using this
/-- A result's box is written, and handed back. -/
theorem ret_close {w X w2 : World} {g : Nat} {A : Option Addr} {c : Nat} {xs : List Value} {k : Bk} (f : Value → Value) (hX : Below w.heap.size w X) (hg : Blk X g 25 zbk) (hgw : w.heap.size ≤ g) (hO : OwnE w2 X.heap.size (.slice A k.ents.length c) xs k.ents) (hB : Below X.heap.size X w2) :
    BkRet w k f (.returned (f (bkv A k.ents.length c k.eps))) ((w2.setCell ⟨g, 0, none⟩ (.slice A k.ents.length c)).setCell ⟨g, 1, none⟩ (.int .i64 k.eps)) := by
  have hgr := (grown_setCell w2 ⟨g, 0, none⟩ (.slice A k.ents.length c)).trans (grown_setCell _ ⟨g, 1, none⟩ (.int .i64 k.eps))
  have hg2 := hg.below hB hg.lt
  have hB2 := keepB hB hX
  exact ⟨A, c, xs, rfl, (hO.grownB hgr hg2 (by decide) (by decide)).less hX.size, hB2.grown hgr hB2.size (fun k e => by injection e with e; dsimp only at e; omega)⟩

set_option maxRecDepth 100000 in
set_option maxHeartbeats 1000000 in
theorem publish_any (A : Option Addr) (c : Nat) (k : Bk) (Al : Option Addr) (cl : Nat) (lab : List UInt8) (Av : Option Addr) (cv : Nat) (val : List UInt8) (w : World) (hA : Ents w w.heap.size A k.ents.length k.ents) (h1 : k.ents.length ≤ c) (h2 : c ≤ maxLen) (hs : SmE k.ents)
    (hL : Rd w w.heap.size Al lab.length (bvs lab)) (hV : Rd w w.heap.size Av val.length (bvs val)) (h3 : lab.length ≤ 1000) (h4 : val.length ≤ 1000) :
    Calls Try.prog 19 #[bkv A k.ents.length c k.eps, .slice Al lab.length cl, .slice Av val.length cv] w (BkRet w (pubK k lab val) (withErr (pubE k lab val))) := by
  have hch := ch_pub k lab val
  have hkp := fun h => pub_keep (k := k) (lab := lab) (val := val) h
  have hpub : ∀ (W w0 : World) (base bc z Bl Bv n0 : Nat) (A' : Option Addr) (c' : Nat) (xs : List Value), checkBk k = true → n0 ≤ base → base ≤ bc → z < base → Blk W z 25 zbk → Blk W bc 25 #[.slice A' k.ents.length c', .int .i64 k.eps] → OwnE W base (.slice A' k.ents.length c') xs k.ents →
      Blk W Bl 26 #[.slice Al lab.length cl] → Blk W Bv 26 #[.slice Av val.length cv] → Rd W W.heap.size Al lab.length (bvs lab) → Rd W W.heap.size Av val.length (bvs val) → Below n0 w0 W → _ := fun W w0 base bc z Bl Bv n0 A' c' xs a1 a2 a3 a4 a5 a6 a7 a8 a9 a10 a11 a12 =>
    pub1_any W w0 base bc z Bl Bv n0 A' c' xs k Al cl lab Av cv val a1 a2 a3 a4 a5 a6 a7 a8 a9 a10 a11 h3 h4 a12
  obtain ⟨pe, hpe⟩ : ∃ pe, pe = pubE k lab val := ⟨_, rfl⟩
  obtain ⟨pk, hpk⟩ : ∃ pk, pk = pubK k lab val := ⟨_, rfl⟩
  rw [← hpe, ← hpk] at hpub
  rw [← hpe] at hch
  rw [← hpe, ← hpk] at hkp
  rw [← hpe, ← hpk]
  have HCH := Lib.hid hch
  have HKP := Lib.hid hkp
  have HPUB := Lib.hid hpub
  have HA := Lib.hid hA
  have HS := Lib.hid hs
  have H1 := Lib.hid h1
  have H2 := Lib.hid h2
  have HLb := Lib.hid hL
  have HVb := Lib.hid hV
  have HF := Lib.hid (four_boxes w #[.slice A k.ents.length c, .int .i64 k.eps] #[.slice Al lab.length cl] #[.slice Av val.length cv] zbk 25 26 26 25)
  clear hch hkp hpub hpe hpk hA hs h1 h2 hL hV
  go_enter Try.func19, Try.ntmps19
  go_wp2_with fail
  generalize ((((w.alloc (.cells #[.slice A k.ents.length c, .int .i64 k.eps] 25)).alloc (.cells #[.slice Al lab.length cl] 26)).alloc (.cells #[.slice Av val.length cv] 26)).alloc (.cells zbk 25)) = X at HF ⊢
  obtain ⟨b0, b1, b2, b3, hX, hsz⟩ := HF.out
  have hsz2 : w.heap.size + 4 ≤ X.heap.size := by omega
  have B1 := Lib.hid b1
  have B2 := Lib.hid b2
  have B3 := Lib.hid b3
  have HX := Lib.hid hX
  clear hsz HF b0 b1 b2 b3
  refine (change_any 33 (enters_of Try.func33 (by kernel_rfl) rfl) #[.pointer (some ⟨w.heap.size + 1, 0, none⟩), .pointer (some ⟨w.heap.size + 1 + 1, 0, none⟩)] A c k pk pe X (Below X.heap.size X) (ents_after HA.out HX.out) H1.out H2.out HS.out (fun W cs i u _ h => h.setCell (p := ⟨X.heap.size + 1, i, none⟩) (by simp) u) (fun W base bc A' c' xs hck hB hb1 hb2 bz bb hO => ?_)).mono ?_
  · exact HPUB.out W X base bc (X.heap.size + 1) (w.heap.size + 1) (w.heap.size + 1 + 1) X.heap.size A' c' xs hck (by omega) hb2 (by omega) bz bb hO (B1.out.below hB (by omega)) (B2.out.below hB (by omega)) (rd_after (rd_after HLb.out HX.out) hB) (rd_after (rd_after HVb.out HX.out) hB) hB
  · rw [HCH.out]
    rintro e w2 hR
    obtain ⟨A2, c2, xs2, rfl, hO2, hB2, hB2'⟩ := ch_all hR HKP.out
    have hB3 : Below X.heap.size X w2 := by
      by_cases h0 : pe = 0
      · exact hB2' h0
      · exact hB2 h0
    have b3 := B3.out.below hB3 B3.out.lt
    have c3 := b3.cell
    have f3 := b3.frozen
    have HO2 := Lib.hid hO2
    have HB3 := Lib.hid hB3
    clear hR hO2 hB2 hB2' b3 hB3 hX
    go_wp2
    refine bodyPost_ret (v := withErr pe (bkv A2 pk.ents.length c2 pk.eps)) (by simp [results, Try.results19, go_sem, c3]) rfl ?_
    exact ret_close (withErr pe) HX.out B3.out (by omega) HO2.out HB3.out

set_option maxRecDepth 100000 in
set_option maxHeartbeats 1000000 in
theorem erase_any (A : Option Addr) (c : Nat) (k : Bk) (Al : Option Addr) (cl : Nat) (lab : List UInt8) (ver : Int) (w : World) (hA : Ents w w.heap.size A k.ents.length k.ents) (h1 : k.ents.length ≤ c) (h2 : c ≤ maxLen) (hs : SmE k.ents)
    (hL : Rd w w.heap.size Al lab.length (bvs lab)) :
    Calls Try.prog 23 #[bkv A k.ents.length c k.eps, .slice Al lab.length cl, .int .i64 ver] w (BkRet w (eraK k lab ver) (withErr (eraE k lab ver))) := by
  have hch := ch_era k lab ver
  have hkp := fun h => era_keep (k := k) (lab := lab) (ver := ver) h
  have hpub : ∀ (W w0 : World) (base bc z Bl Bv n0 : Nat) (A' : Option Addr) (c' : Nat) (xs : List Value), checkBk k = true → n0 ≤ base → base ≤ bc → z < base → Blk W z 25 zbk → Blk W bc 25 #[.slice A' k.ents.length c', .int .i64 k.eps] → OwnE W base (.slice A' k.ents.length c') xs k.ents →
      Blk W Bl 26 #[.slice Al lab.length cl] → Blk W Bv 3 #[.int .i64 ver] → Rd W W.heap.size Al lab.length (bvs lab) → Below n0 w0 W → _ := fun W w0 base bc z Bl Bv n0 A' c' xs a1 a2 a3 a4 a5 a6 a7 a8 a9 a10 a12 =>
    era1_any W w0 base bc z Bl Bv n0 A' c' xs k Al cl lab ver a1 a2 a3 a4 a5 a6 a7 a8 a9 a10 a12
  obtain ⟨pe, hpe⟩ : ∃ pe, pe = eraE k lab ver := ⟨_, rfl⟩
  obtain ⟨pk, hpk⟩ : ∃ pk, pk = eraK k lab ver := ⟨_, rfl⟩
  rw [← hpe, ← hpk] at hpub
  rw [← hpe] at hch
  rw [← hpe, ← hpk] at hkp
  rw [← hpe, ← hpk]
  have HCH := Lib.hid hch
  have HKP := Lib.hid hkp
  have HPUB := Lib.hid hpub
  have HA := Lib.hid hA
  have HS := Lib.hid hs
  have H1 := Lib.hid h1
  have H2 := Lib.hid h2
  have HLb := Lib.hid hL
  have HF := Lib.hid (four_boxes w #[.slice A k.ents.length c, .int .i64 k.eps] #[.slice Al lab.length cl] #[.int .i64 ver] zbk 25 26 3 25)
  clear hch hkp hpub hpe hpk hA hs h1 h2 hL
  go_enter Try.func23, Try.ntmps23
  go_wp2_with fail
  generalize ((((w.alloc (.cells #[.slice A k.ents.length c, .int .i64 k.eps] 25)).alloc (.cells #[.slice Al lab.length cl] 26)).alloc (.cells #[.int .i64 ver] 3)).alloc (.cells zbk 25)) = X at HF ⊢
  obtain ⟨b0, b1, b2, b3, hX, hsz⟩ := HF.out
  have hsz2 : w.heap.size + 4 ≤ X.heap.size := by omega
  have B1 := Lib.hid b1
  have B2 := Lib.hid b2
  have B3 := Lib.hid b3
  have HX := Lib.hid hX
  clear hsz HF b0 b1 b2 b3
  refine (change_any 40 (enters_of Try.func40 (by kernel_rfl) rfl) #[.pointer (some ⟨w.heap.size + 1, 0, none⟩), .pointer (some ⟨w.heap.size + 1 + 1, 0, none⟩)] A c k pk pe X (Below X.heap.size X) (ents_after HA.out HX.out) H1.out H2.out HS.out (fun W cs i u _ h => h.setCell (p := ⟨X.heap.size + 1, i, none⟩) (by simp) u) (fun W base bc A' c' xs hck hB hb1 hb2 bz bb hO => ?_)).mono ?_
  · exact HPUB.out W X base bc (X.heap.size + 1) (w.heap.size + 1) (w.heap.size + 1 + 1) X.heap.size A' c' xs hck (by omega) hb2 (by omega) bz bb hO (B1.out.below hB (by omega)) (B2.out.below hB (by omega)) (rd_after (rd_after HLb.out HX.out) hB) hB
  · rw [HCH.out]
    rintro e w2 hR
    obtain ⟨A2, c2, xs2, rfl, hO2, hB2, hB2'⟩ := ch_all hR HKP.out
    have hB3 : Below X.heap.size X w2 := by
      by_cases h0 : pe = 0
      · exact hB2' h0
      · exact hB2 h0
    have b3 := B3.out.below hB3 B3.out.lt
    have c3 := b3.cell
    have f3 := b3.frozen
    have HO2 := Lib.hid hO2
    have HB3 := Lib.hid hB3
    clear hR hO2 hB2 hB2' b3 hB3 hX
    go_wp2
    refine bodyPost_ret (v := withErr pe (bkv A2 pk.ents.length c2 pk.eps)) (by simp [results, Try.results23, go_sem, c3]) rfl ?_
    exact ret_close (withErr pe) HX.out B3.out (by omega) HO2.out HB3.out
end Go.Proofs.Ytkiijbbcfbkecaa
