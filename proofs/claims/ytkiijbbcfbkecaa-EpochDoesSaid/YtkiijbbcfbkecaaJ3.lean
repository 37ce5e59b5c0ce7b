/- What Erase does to its book. -/
import Derived.Test.YtkiijbbcfbkecaaJ2
namespace Go.Proofs.Ytkiijbbcfbkecaa
open Go.RowKit
set_option linter.unusedVariables false

theorem keepEra {W w' : World} {bc Bl Bv : Nat} {x y l v : Value} (hb : Blk W bc 25 #[x, y]) (hl : Blk W Bl 26 #[l]) (hv : Blk W Bv 3 #[v]) (h : Below W.heap.size W w') :
    w'.cell? ⟨bc, 0, none⟩ = some x ∧ w'.cell? ⟨bc, 1, none⟩ = some y ∧ w'.cell? ⟨Bl, 0, none⟩ = some l ∧ w'.cell? ⟨Bv, 0, none⟩ = some v ∧ Below W.heap.size W w' :=
  ⟨(hb.below h hb.lt).cell 0, (hb.below h hb.lt).cell 1, (hl.below h hl.lt).cell 0, (hv.below h hv.lt).cell 0, h⟩
theorem blk_ne {w : World} {a b : Nat} {t t' : TypeId} {cs cs' : Array Value} (h : Blk w a t cs) (h' : Blk w b t' cs') (hne : t ≠ t') : a ≠ b := by
  intro e
  subst e
  unfold Blk at h h'
  rw [h] at h'
  injection h' with h'
  injection h' with _ ht
  exact hne ht
theorem era_close {W w0 w1 : World} {base bc z n0 G cap i : Nat} {xs : List Value} {ents : List Ent} {eps : Int} {x : Ent} (hn0 : n0 ≤ base) (hbase : base ≤ bc) (hz : z < base) (hsb : base ≤ W.heap.size) (hBE : Below n0 w0 W) (hW1 : Below W.heap.size W w1) (hG : base ≤ G)
    (o1 : OwnE w1 base (.slice (some ⟨G, 0, none⟩) ents.length cap) xs ents) (hx : ents[i]? = some x) (z1 : Blk w1 z 25 zbk) (b1 : Blk w1 bc 25 #[.slice (some ⟨G, 0, none⟩) ents.length cap, .int .i64 eps]) :
    DoRet (Below n0 w0) base bc z ⟨ents.set i { x with er := true, value := [] }, eps⟩ 0 W (.returned (.int .i64 0)) ((w1.setCell ⟨G, i * 5 + 4, none⟩ (.bool true)).setCell ⟨G, i * 5 + 1, none⟩ (.slice none 0 0)) := by
  have hi := (List.getElem?_eq_some_iff.1 hx).1
  obtain ⟨cur, hg⟩ := o1.blk rfl
  obtain ⟨o2, g2⟩ := o1.setEr hx true
  have hx2 : (ents.set i { x with er := true })[i]? = some { x with er := true } := List.getElem?_set_self hi
  have hl2 : (ents.set i { x with er := true }).length = ents.length := List.length_set
  obtain ⟨o3, g3⟩ := o2.setNil hx2
  rw [List.set_set] at o3
  have hnb : bc ≠ G := blk_ne b1 hg (by decide)
  have hnz : z ≠ G := blk_ne z1 hg (by decide)
  have hl3 : (ents.set i { x with er := true, value := [] }).length = ents.length := List.length_set
  refine ⟨rfl, fun h => absurd rfl h, fun _ => ⟨some ⟨G, 0, none⟩, cap, (xs.set (i * 5 + 4) (.bool true)).set (i * 5 + 1) (.slice none 0 0), ?_, ?_, ?_, ?_⟩⟩
  rotate_left
  · dsimp only
    rw [hl3]
    exact o3
  · exact ((hBE.trans (hW1.mono (Nat.le_trans hn0 hsb))).setCell (p := ⟨G, i * 5 + 4, none⟩) (Nat.le_trans hn0 hG) _).setCell (p := ⟨G, i * 5 + 1, none⟩) (Nat.le_trans hn0 hG) _
  · exact (z1.far (p := ⟨G, i * 5 + 4, none⟩) hnz _).far (p := ⟨G, i * 5 + 1, none⟩) hnz _
  · dsimp only
    rw [hl3]
    exact (b1.far (p := ⟨G, i * 5 + 4, none⟩) hnb _).far (p := ⟨G, i * 5 + 1, none⟩) hnb _

set_option maxRecDepth 100000 in
set_option maxHeartbeats 2000000 in
theorem era1_any (W w0 : World) (base bc z Bl Bv n0 : Nat) (A' : Option Addr) (c' : Nat) (xs : List Value) (k : Bk) (Al : Option Addr) (cl : Nat) (lab : List UInt8) (ver : Int)
    (hck : checkBk k = true) (hn0 : n0 ≤ base) (hbase : base ≤ bc) (hz : z < base) (bz : Blk W z 25 zbk) (bb : Blk W bc 25 #[.slice A' k.ents.length c', .int .i64 k.eps]) (hO : OwnE W base (.slice A' k.ents.length c') xs k.ents)
    (bl : Blk W Bl 26 #[.slice Al lab.length cl]) (bv : Blk W Bv 3 #[.int .i64 ver]) (hL : Rd W W.heap.size Al lab.length (bvs lab)) (hBe : Below n0 w0 W) :
    Calls Try.prog 40 #[.pointer (some ⟨bc, 0, none⟩), .pointer (some ⟨Bl, 0, none⟩), .pointer (some ⟨Bv, 0, none⟩)] W (DoRet (Below n0 w0) base bc z (eraK k lab ver) (eraE k lab ver) W) := by
  have hgi := getI_eq k lab ver
  have hgo := getOk_eq k lab ver
  have HE := Lib.hid hO.ents
  obtain ⟨A'', c'', hV', hc1, hc2⟩ := hO.form
  simp only [Value.slice.injEq] at hV'
  obtain ⟨rfl, _, rfl⟩ := hV'
  have HC := Lib.hid hck
  have hlen : k.ents.length ≤ 72 := by simp [checkBk] at hck; omega
  have hgl : ∀ i, getN k lab ver = some i → i < k.ents.length ∧ ∃ x, k.ents[i]? = some x ∧ x.label = lab ∧ x.ver = ver := by
    intro i h
    unfold getN at h
    rw [hck, if_pos rfl] at h
    exact getP_lt h
  obtain ⟨pe, hpe⟩ : ∃ pe, pe = eraE k lab ver := ⟨_, rfl⟩
  obtain ⟨pk, hpk⟩ : ∃ pk, pk = eraK k lab ver := ⟨_, rfl⟩
  rw [← hpe, ← hpk]
  obtain ⟨gn, hgn⟩ : ∃ gn, gn = getN k lab ver := ⟨_, rfl⟩
  rw [← hgn] at hgi hgo hgl
  have HPE := Lib.hid hpe
  have HPK := Lib.hid hpk
  have HGN := Lib.hid hgn
  have HGL := Lib.hid hgl
  have HSB := Lib.hid (show base ≤ W.heap.size by have := bb.lt; omega)
  clear hpe hpk hgn hgl
  obtain ⟨ents, eps⟩ := k
  dsimp only at bb hO hgi hgo HE hlen hc1 HGL ⊢
  have HGI := Lib.hid hgi
  have HGO := Lib.hid hgo
  have HO := Lib.hid hO
  have BB := Lib.hid bb
  have BL := Lib.hid bl
  have BV := Lib.hid bv
  have BZ := Lib.hid bz
  have HLb := Lib.hid hL
  have HBE := Lib.hid hBe
  have hK := Lib.hid (fun w' => keepEra (w' := w') BB.out BL.out BV.out)
  have k0 := keepEra bb bl bv (Below.refl _ _)
  obtain ⟨k0, k1, k2, k3, k4⟩ := k0
  clear hck bz bb hO bl bv hL hBe hgi hgo k4
  go_enter Try.func40, Try.ntmps40
  go_wp2
  go_region_held3 (fun w' => w'.cell? ⟨bc, 0, none⟩ = some (.slice A' ents.length c') ∧ w'.cell? ⟨bc, 1, none⟩ = some (.int .i64 eps) ∧ w'.cell? ⟨Bl, 0, none⟩ = some (.slice Al lab.length cl) ∧ w'.cell? ⟨Bv, 0, none⟩ = some (.int .i64 ver) ∧ Below W.heap.size W w')
    ((refine hK.out _ ?_; simp only [Below.refl, bel_drew, *]))
    (first
      | (go_at_call 13; go_split_ands; refine (get_any A' c' ⟨ents, eps⟩ Al cl lab ver _ (ents_after HE.out (by with_reducible assumption)) hc1 hc2 (rd_after HLb.out (by with_reducible assumption))).mono ?_; rw [HGI.out, HGO.out]; rintro e w1 ⟨rfl, hB1⟩; have hW1 := keepB hB1 (W := W) (by with_reducible assumption)))
  have b1 := BB.out.below hW1 BB.out.lt
  have z1 := BZ.out.below hW1 BZ.out.lt
  have o1 := HO.out.below hW1
  have cB := b1.cell
  have B1 := Lib.hid b1
  have Z1 := Lib.hid z1
  have O1 := Lib.hid o1
  have HW1 := Lib.hid hW1
  clear k0 k1 k2 k3 hB1 hW1 hK b1 z1 o1
  rcases gn with _ | i
  · have hpe : pe = 192 := by rw [HPE.out]; unfold eraE; rw [HC.out, if_pos rfl, ← HGN.out]
    have HP := Lib.hid hpe
    clear hpe
    go_wp2
    go_ret
    exact ⟨ret_i HP.out.symm, fun _ => HW1.out.mono HSB.out, fun h => absurd (HP.out.symm.trans h) (by decide)⟩
  · obtain ⟨hi, x, hx, _, _⟩ := HGL.out i rfl
    obtain ⟨G, cap, x', Al', cl', Av', cv', hV, hq1, hq2, hGb, hGl, hx', g1, g2, g3, g4, g5, gf⟩ := O1.out.at_ hi
    rw [hx] at hx'
    injection hx' with hx'
    subst hx'
    simp only [Value.slice.injEq] at hV
    obtain ⟨rfl, _, rfl⟩ := hV
    have HX := Lib.hid hx
    have hk0 : (0 : Int) ≤ (i : Int) := by omega
    have hk1 : (i : Int) < (ents.length : Int) := by omega
    clear hx
    by_cases h0 : x.ep = 0
    · have hpe : pe = 192 := by rw [HPE.out]; unfold eraE; rw [HC.out, if_pos rfl, ← HGN.out]; simp [epAt, HX.out, h0]
      have HP := Lib.hid hpe
      have h0b : (x.ep == 0) = true := by simp [h0]
      clear hpe h0
      go_wp2
      go_ret
      exact ⟨ret_i HP.out.symm, fun _ => HW1.out.mono HSB.out, fun h => absurd (HP.out.symm.trans h) (by decide)⟩
    · have hpe : pe = 0 := by rw [HPE.out]; unfold eraE; rw [HC.out, if_pos rfl, ← HGN.out]; simp [epAt, HX.out, h0]
      have hpk : pk = ⟨ents.set i { x with er := true, value := [] }, eps⟩ := by
        rw [HPK.out]; unfold eraK; rw [if_pos (by rw [← HPE.out]; exact hpe), ← HGN.out]; simp only [Option.getD_some, eraL, HX.out]
      have HP := Lib.hid hpe
      have HPK2 := Lib.hid hpk
      have h0b : (x.ep == 0) = false := by simpa using h0
      obtain ⟨cur, hgb⟩ := O1.out.blk rfl
      have hnb : bc ≠ G := blk_ne B1.out hgb (by decide)
      have cB2 := (B1.out.far (p := ⟨G, i * 5 + 4, none⟩) hnb (.bool true)).cell
      clear hpe hpk h0 hgb
      go_wp2
      go_ret
      rw [HP.out, HPK2.out]
      exact era_close hn0 hbase hz HSB.out HBE.out HW1.out hGb O1.out HX.out Z1.out B1.out
end Go.Proofs.Ytkiijbbcfbkecaa
