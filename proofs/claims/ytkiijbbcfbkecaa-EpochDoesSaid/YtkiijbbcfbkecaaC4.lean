/- The document's Tick. -/
import Derived.Test.YtkiijbbcfbkecaaC3
import Derived.Test.YtkiijbbcfbkecaaJ6
namespace Go.Proofs.Ytkiijbbcfbkecaa
open Go.RowKit
set_option linter.unusedVariables false
set_option linter.unusedSimpArgs false

theorem rd_set {w : World} {p : Addr} {v u : Value} {t : TypeId} (h : Rd ((w.setCell p v).alloc (.cells #[u] t)) ((w.setCell p v).heap.size + 1) (some ⟨(w.setCell p v).heap.size, 0, none⟩) (1 * 1) [u]) : Rd ((w.setCell p v).alloc (.cells #[u] t)) (w.heap.size + 1) (some ⟨w.heap.size, 0, none⟩) (1 * 1) [u] := by
  have e : (w.setCell p v).heap.size = w.heap.size := by simp [World.setCell]
  rw [e] at h
  exact h
theorem tk_ret {w X : World} {g base : Nat} {A A' : Option Addr} {c c' : Nat} {xs : List Value} {k : Bk} {ps : List Nat} {ef : Int} {cs : Array Value} (hX : Below w.heap.size w X) (hg : Blk X g 25 cs) (hgw : w.heap.size ≤ g)
    (hO : OwnE X base (.slice A k.ents.length c) xs k.ents) (hp : X.ownsRow base 3 1 (.slice A' ps.length c') ps.length (pvs ps)) (hb : w.heap.size ≤ base) :
    TkRet w k ps ef (.returned (.tuple #[bkv A k.ents.length c k.eps, .slice A' ps.length c', .int .i64 ef])) ((X.setCell ⟨g, 0, none⟩ (.slice A k.ents.length c)).setCell ⟨g, 1, none⟩ (.int .i64 k.eps)) := by
  have hgr := (grown_setCell X ⟨g, 0, none⟩ (.slice A k.ents.length c)).trans (grown_setCell _ ⟨g, 1, none⟩ (.int .i64 k.eps))
  exact ⟨A, c, xs, A', c', rfl, (hO.grownB hgr hg (by decide) (by decide)).less hb, own_less (own_far_t hp hgr hg (by decide)) hb, hX.grown hgr hX.size (fun k e => by injection e with e; dsimp only at e; omega)⟩
/-- What holds behind j entries. -/
structure RTk (w0 wr : World) (base bo z : Nat) (A' : Option Addr) (c' : Nat) (ents : List Ent) (eps : Int) (V : Value) (ys : List Value) (j : Nat) : Prop where
  box : Blk wr bo 25 #[.slice A' ents.length c', .int .i64 (eps + 1)]
  own : OwnE wr base (.slice A' ents.length c') ys (tkL ents (eps + 1) j)
  pl : wr.ownsRow base 3 1 V (tkP ents j).length (pvs (tkP ents j))
  bel : Below w0.heap.size w0 wr
  zb : Blk wr z 25 zbk
  sz : base ≤ wr.heap.size
section
variable {w0 wr : World} {base bo z : Nat} {A' : Option Addr} {c' : Nat} {ents : List Ent} {eps : Int} {V : Value} {ys : List Value} {j : Nat}
theorem RTk.keep (h : RTk w0 wr base bo z A' c' ents eps V ys j) {x : Ent} (hx : ents[j]? = some x) (h0 : x.ep ≠ 0) : RTk w0 wr base bo z A' c' ents eps V ys (j + 1) :=
  ⟨h.box, by rw [tkL_keep hx h0]; exact h.own, by rw [tkP_keep hx h0]; exact h.pl, h.bel, h.zb, h.sz⟩
theorem RTk.full (h : RTk w0 wr base bo z A' c' ents eps V ys j) (h4 : ¬ (tkP ents j).length < 4) (hj : j ≤ ents.length) : RTk w0 wr base bo z A' c' ents eps V ys ents.length := by
  obtain ⟨e1, e2⟩ := tk_full_all (ep := eps + 1) h4 (ents.length - j)
  rw [show j + (ents.length - j) = ents.length by omega] at e1 e2
  exact ⟨h.box, by rw [e2]; exact h.own, by rw [e1]; exact h.pl, h.bel, h.zb, h.sz⟩
theorem RTk.next {w9 : World} {G : Nat} {V' : Value} {o : Obj} (hn0 : w0.heap.size ≤ base) (hG : base ≤ G) (h : RTk w0 wr base bo z (some ⟨G, 0, none⟩) c' ents eps V ys j) {x : Ent} (hx : ents[j]? = some x) (h0 : x.ep = 0) (h4 : (tkP ents j).length < 4)
    (hown9 : w9.ownsRow base 3 1 V' ((tkP ents j).length + 1) (pvs (tkP ents j) ++ [.int .i64 (j : Int)])) (hgr9 : ((wr.setCell ⟨G, j * 5 + 3, none⟩ (.int .i64 (eps + 1))).alloc o).grownBy w9 V.ownBlock) :
    RTk w0 w9 base bo z (some ⟨G, 0, none⟩) c' ents eps V' (ys.set (j * 5 + 3) (.int .i64 (eps + 1))) (j + 1) := by
  obtain ⟨cur, hg⟩ := h.own.blk rfl
  have hxj : (tkL ents (eps + 1) j)[j]? = some x := (tkL_ahead ents (eps + 1) (Nat.le_refl j)).trans hx
  have hnl : ents.length = (tkL ents (eps + 1) j).length := (tkL_len _ _ _).symm
  obtain ⟨o2, g2⟩ := h.own.setEp hxj (eps + 1)
  have hgs := grown_setCell wr ⟨G, j * 5 + 3, none⟩ (.int .i64 (eps + 1))
  have pl2 := (own_far_t h.pl hgs hg (by decide)).alloc o
  have b2 := (h.box.far (p := ⟨G, j * 5 + 3, none⟩) (blk_ne h.box hg (by decide)) (.int .i64 (eps + 1))).alloc o
  have z2 := (h.zb.far (p := ⟨G, j * 5 + 3, none⟩) (blk_ne h.zb hg (by decide)) (.int .i64 (eps + 1))).alloc o
  have b3 := blk_far hgr9 b2 pl2 (by decide)
  have z3 := blk_far hgr9 z2 pl2 (by decide)
  have o3 := (o2.alloc o).grown hgr9 (fun g cur t e hh => by
    obtain ⟨c, hc, _⟩ := own_block pl2 e
    rw [hc] at hh
    injection hh with hh
    injection hh with _ ht
    subst ht
    exact ⟨by decide, by decide⟩)
  have hsz := h.sz
  refine ⟨b3, ?_, ?_, ?_, z3, ?_⟩
  · rw [tkL_set hx h0 h4]
    exact o3
  · rw [tkP_set hx h0 h4, pvs_snoc, List.length_append]
    exact hown9
  · have h1 := (h.bel.setCell (p := ⟨G, j * 5 + 3, none⟩) (Nat.le_trans hn0 hG) (.int .i64 (eps + 1))).alloc (by simp [World.setCell]; omega) o
    exact h1.grown hgr9 (by simp [World.setCell]; omega) (fun k e => by obtain ⟨_, _, hh, _⟩ := own_block h.pl e; omega)
  · have := hgr9.size
    simp [World.setCell] at this
    omega
end

set_option maxRecDepth 100000 in
set_option maxHeartbeats 8000000 in
theorem rtick_any (A : Option Addr) (c : Nat) (k : Bk) (w : World) (hA : Ents w w.heap.size A k.ents.length k.ents) (h1 : k.ents.length ≤ c) (h2 : c ≤ maxLen) (hs : SmE k.ents) :
    Calls Try.prog 22 #[bkv A k.ents.length c k.eps] w (TkRet w (tickK k) (tickPl k) (tickE k)) := by
  obtain ⟨i3, hi3, hz3, hs3, hb3⟩ := info_parts infoTI
  obtain ⟨pe, hpe⟩ : ∃ pe, pe = tickE k := ⟨_, rfl⟩
  obtain ⟨pk, hpk⟩ : ∃ pk, pk = tickK k := ⟨_, rfl⟩
  obtain ⟨pp, hpp⟩ : ∃ pp, pp = tickPl k := ⟨_, rfl⟩
  have hkp : pe ≠ 0 → pk = k ∧ pp = [] := fun h => by rw [hpk, hpp]; exact tick_keep (by rw [← hpe]; exact h)
  rw [← hpe, ← hpk, ← hpp]
  have hlen := hs.1
  have HPE := Lib.hid hpe
  have HPK0 := Lib.hid hpk
  have HPP0 := Lib.hid hpp
  have HKP := Lib.hid hkp
  have HA := Lib.hid hA
  have HS := Lib.hid hs
  have H1 := Lib.hid h1
  have H2 := Lib.hid h2
  have HT := Lib.hid (two_bk hA h1 h2)
  clear hpe hpk hpp hkp hA hs h1 h2
  go_enter Try.func22, Try.ntmps22
  go_upto_region 1 with (fail)
  generalize ((w.alloc (.cells #[.slice A k.ents.length c, .int .i64 k.eps] 25)).alloc (.cells zbk 25)) = W1 at HT ⊢
  obtain ⟨d1, z1, hB1, hsz1⟩ := HT.out
  obtain ⟨q0, q1⟩ := d1.cells
  have D1 := Lib.hid d1
  have Z1 := Lib.hid z1
  have HB1 := Lib.hid hB1
  have hsw : w.heap.size + 2 ≤ W1.heap.size := by omega
  clear HT d1 z1 hB1 hsz1
  go_upto_region 2 with (go_at_call 37; refine (rcopy_any A c k _ D1.out.ents H1.out H2.out HS.out).mono ?_; rintro e w2 ⟨AA1, cc1, xs, rfl, hO2, hB2⟩)
  have o3 := OBox.new (k := k) hO2 (Nat.le_trans (by omega : w.heap.size ≤ W1.heap.size) (Nat.le_refl _))
  have hB3 := bel_alloc (o := .cells #[.slice AA1 k.ents.length cc1, .int .i64 k.eps] 25) hB2
  have hsb := hB2.size
  generalize (w2.alloc (.cells #[.slice AA1 k.ents.length cc1, .int .i64 k.eps] 25)) = W3 at o3 hB3 ⊢
  obtain ⟨bo, hbo⟩ : ∃ bo, bo = w2.heap.size := ⟨_, rfl⟩
  rw [← hbo] at o3 hsb ⊢
  have hbo1 : w.heap.size + 2 ≤ bo := by omega
  have O3 := Lib.hid o3
  have D3 := Lib.hid (D1.out.after hB3)
  have Z3 := Lib.hid (Z1.out.below hB3 Z1.out.lt)
  have HB3 := Lib.hid (keepB hB3 HB1.out)
  obtain ⟨q0, q1⟩ := D3.out.cells
  clear hO2 hB2 hbo hB3 o3 D1 Z1 HB1 hsb hsw
  cases hck : checkBk k
  · have hpe : pe = 190 := by rw [HPE.out]; unfold tickE; rw [hck]; rfl
    have HP := Lib.hid hpe
    have HPK := Lib.hid (HKP.out (by rw [hpe]; decide))
    have HCK := Lib.hid hck
    clear hck hpe
    go_wp2_with (go_at_call 16; refine (rcheck_any A c k _ D3.out.ents D3.out.cap D3.out.cm).mono ?_; rw [HCK.out]; simp only [errOf, Bool.false_eq_true, if_true, if_false]; rintro e w4 ⟨rfl, hB4⟩; have z4 := Z3.out.below hB4 Z3.out.lt; have o4 := O3.out.after hB4; have d4 := D3.out.after hB4; have r2 := o4.blk.cell; have r2f := o4.blk.frozen; have r3 := z4.cell; have r4 := z4.frozen; obtain ⟨r5, r6⟩ := d4.cells; have Z4 := Lib.hid z4; have O4 := Lib.hid o4; have HB4 := Lib.hid (keepB hB4 HB3.out); clear hB4 z4 o4 d4)
    refine bodyPost_ret (v := .tuple #[bkv AA1 k.ents.length cc1 k.eps, .slice none 0 0, .int .i64 190]) (by simp [results, Try.results22, go_sem, r3]) rfl ?_
    rw [HP.out, HPK.out.1, HPK.out.2]
    exact tk_ret (ps := []) (A' := none) (c' := 0) HB4.out Z4.out (by omega) O4.out.own (World.ownsRow_nil _ _ _ _) (by omega)
  · have HCK := Lib.hid hck
    have heps : 0 ≤ k.eps ∧ k.eps ≤ 16 := by simp [checkBk] at hck; omega
    obtain ⟨he0, he1⟩ := heps
    have hpe2 := HPE.out
    unfold tickE at hpe2
    rw [hck, if_pos rfl] at hpe2
    have HPE2 := Lib.hid hpe2
    clear hck hpe2
    by_cases h16 : k.eps < 16
    · have hpe : pe = 0 := by rw [HPE2.out, if_pos h16]
      have hpk : pk = ⟨tkL k.ents (k.eps + 1) k.ents.length, k.eps + 1⟩ := by rw [HPK0.out]; unfold tickK; rw [if_pos (by rw [← HPE.out]; exact hpe)]
      have hpp : pp = tkP k.ents k.ents.length := by rw [HPP0.out]; unfold tickPl; rw [if_pos (by rw [← HPE.out]; exact hpe)]
      have HP := Lib.hid hpe
      have HPK := Lib.hid hpk
      have HPP := Lib.hid hpp
      have hge : (k.eps == 16) = false := by rw [beq_eq_false_iff_ne]; omega
      have hw1 : IntKind.i64.wrap (k.eps + 1) = k.eps + 1 := IntWalk.i64_in _ (by omega)
      clear hpe hpk hpp HPE HPE2 HPK0 HPP0 HKP
      go_upto_region 7 with (go_at_call 16; refine (rcheck_any A c k _ D3.out.ents D3.out.cap D3.out.cm).mono ?_; rw [HCK.out]; simp only [errOf, if_true]; rintro e w4 ⟨rfl, hB4⟩; have z4 := Z3.out.below hB4 Z3.out.lt; have o4 := O3.out.after hB4; have d4 := D3.out.after hB4; have r2 := o4.blk.cell; have r2f := o4.blk.frozen; have r3 := z4.cell; have r4 := z4.frozen; obtain ⟨r5, r6⟩ := d4.cells; have Z4 := Lib.hid z4; have O4 := Lib.hid o4; have HB4 := Lib.hid (keepB hB4 HB3.out); clear hB4 z4 o4 d4)
      have hb2 := O4.out.blk.set_ 1 (.int .i64 (k.eps + 1))
      have hI : RTk w (w4.setCell ⟨bo, 1, none⟩ (.int .i64 (k.eps + 1))) w.heap.size bo (w.heap.size + 1) AA1 cc1 k.ents k.eps (.slice none 0 0) xs 0 :=
        ⟨by simpa using hb2, O4.out.own.grownB (grown_setCell w4 ⟨bo, 1, none⟩ _) O4.out.blk (by decide) (by decide), World.ownsRow_nil _ _ _ _, HB4.out.setCell (p := ⟨bo, 1, none⟩) (by show w.heap.size ≤ bo; omega) _, Z4.out.far (p := ⟨bo, 1, none⟩) (by simp; omega) _, by have := HB4.out.size; simpa [World.setCell] using this⟩
      have HI := Lib.hid hI
      clear hI hb2 q0 q1 r2 r2f r3 r4 r5 r6 hge
      generalize (w4.setCell ⟨bo, 1, none⟩ (.int .i64 (k.eps + 1))) = W5 at HI ⊢
      clear HB4 O4 Z4 HB3 Z3 D3 O3
      obtain ⟨ents, eps⟩ := k
      dsimp only at HI hlen hw1 he0 he1 h16 HP HPK HPP ⊢
      go_wp2_with fail
      go_loopw [6, 7] (fun v i wr => ∃ (j : Nat) (ys : List Value), j ≤ ents.length ∧ i = .int .i64 j ∧ RTk w wr w.heap.size bo (w.heap.size + 1) AA1 cc1 ents eps v ys j) (fun v i _ => ents.length - (intOf i).toNat)
      case atStart => exact ⟨0, xs, Nat.zero_le _, rfl, HI.out⟩
      case round =>
        obtain ⟨j, ys, hj, rfl, hJ⟩ := hrel
        have J := Lib.hid hJ
        have cB := hJ.box.cell
        have hjl := (tkP_le ents j).1
        obtain ⟨Ap, cp, hAp, p1, p2⟩ := own_form hJ.pl
        subst hAp
        by_cases hlt : j < ents.length
        · by_cases h4 : (tkP ents j).length < 4
          · obtain ⟨x, hx⟩ : ∃ x, ents[j]? = some x := ⟨_, List.getElem?_eq_getElem hlt⟩
            have hltk : j < (tkL ents (eps + 1) j).length := by rw [tkL_len]; exact hlt
            obtain ⟨G, cap, x', Al', cl', Av', cv', hV, hq1, hq2, hGb, hGl, hx', g1, g2, g3, g4, g5, gf⟩ := hJ.own.at_ hltk
            rw [tkL_ahead ents (eps + 1) (Nat.le_refl j), hx] at hx'
            injection hx' with hx'
            subst hx'
            simp only [Value.slice.injEq] at hV
            obtain ⟨rfl, hxl, rfl⟩ := hV
            clear hxl
            have HX := Lib.hid hx
            have H4 := Lib.hid h4
            have hk0 : (0 : Int) ≤ (j : Int) := by omega
            have hk1 : (j : Int) < (ents.length : Int) := by omega
            have h4b : decide (((tkP ents j).length : Int) < 4) = true := decide_eq_true (by omega)
            clear hx hltk HI
            by_cases h0 : x.ep = 0
            · have h0b : (x.ep == 0) = true := by simp [h0]
              have H0 := Lib.hid h0
              obtain ⟨cur, hgb⟩ := hJ.own.blk rfl
              have PL := Lib.hid ((own_far_t hJ.pl (grown_setCell wr ⟨G, j * 5 + 3, none⟩ (.int .i64 (eps + 1))) hgb (by decide)).alloc (.cells #[.int .i64 (j : Int)] 3))
              have RD := Lib.hid (rd_new (wr.setCell ⟨G, j * 5 + 3, none⟩ (.int .i64 (eps + 1))) (.int .i64 (j : Int)) 3)
              have M1 := Lib.hid (show (tkP ents j).length + 1 ≤ maxLen by unfold maxLen; omega)
              have M2 := Lib.hid (show ((tkP ents j).length + 1) * 8 ≤ 140737488355328 by omega)
              have M3 := Lib.hid (show w.heap.size ≤ ((wr.setCell ⟨G, j * 5 + 3, none⟩ (.int .i64 (eps + 1))).alloc (.cells #[.int .i64 (j : Int)] 3)).heap.size by have := hJ.sz; simp [World.setCell]; omega)
              clear h0 h4 hJ hgb
              go_wp2_with (at_builtin; refine wpList_append_any _ rfl (.tmp 48) (.tmp 50) 38 rfl w.heap.size 3 i3 (.int .i64 0) 1 8 Try.underlying38 hi3 hz3 hs3 hb3 rfl (by omega) (.slice Ap (tkP ents j).length cp) (tkP ents j).length (pvs (tkP ents j)) rfl (by exact PL.out) _ (some ⟨wr.heap.size, 0, none⟩) 1 1 [.int .i64 (j : Int)] rfl (by exact rd_set RD.out) (int_one _) M1.out M2.out M3.out ?_; intro v9 w9 hown9 hgr9 hat9; obtain ⟨A9, cc9, rfl, q1, q2⟩ := own_form hown9)
              go_roundw
              case rel => exact ⟨j + 1, _, by omega, by go_num, J.out.next (Nat.le_refl _) hGb HX.out H0.out H4.out hown9 ⟨hgr9.os, hgr9.tape, hgr9.output, hgr9.size, hgr9.block⟩⟩
              case measure => simp [intOf]; omega
            · have h0b : (x.ep == 0) = false := by simpa using h0
              have H0 := Lib.hid h0
              clear h0 hJ h4
              go_wp2
              go_roundw
              case rel => exact ⟨j + 1, ys, by omega, by go_num, J.out.keep HX.out H0.out⟩
              case measure => simp [intOf]; omega
          · have h4b : decide (((tkP ents j).length : Int) < 4) = false := decide_eq_false (by omega)
            have hk1 : (j : Int) < (ents.length : Int) := by omega
            have JF := Lib.hid (hJ.full h4 hj)
            have hz := hJ.zb.cell
            have hzf := hJ.zb.frozen
            have hpl2 : tkP ents ents.length = tkP ents j := by
              obtain ⟨e1, _⟩ := tk_full_all (ep := eps + 1) h4 (ents.length - j)
              rw [show j + (ents.length - j) = ents.length by omega] at e1
              exact e1
            have HPL := Lib.hid hpl2
            clear hJ h4 HI hpl2
            go_wp2
            refine bodyPost_ret (v := .tuple #[bkv AA1 ents.length cc1 (eps + 1), .slice Ap (tkP ents j).length cp, .int .i64 0]) (by simp [results, Try.results22, go_sem, hz]) rfl ?_
            rw [HP.out, HPK.out, HPP.out, HPL.out]
            have R := tk_ret (k := ⟨tkL ents (eps + 1) ents.length, eps + 1⟩) (ps := tkP ents j) (A := AA1) (c := cc1) (A' := Ap) (c' := cp) (xs := ys) (ef := 0) JF.out.bel JF.out.zb (by omega) (by dsimp only; rw [tkL_len]; exact JF.out.own) (by have := JF.out.pl; rw [HPL.out] at this; exact this) (Nat.le_refl _)
            simp only [tkL_len] at R
            exact R
        · obtain rfl : j = ents.length := by omega
          have hz := hJ.zb.cell
          have hzf := hJ.zb.frozen
          clear hJ HI
          go_wp2
          refine bodyPost_ret (v := .tuple #[bkv AA1 ents.length cc1 (eps + 1), .slice Ap (tkP ents ents.length).length cp, .int .i64 0]) (by simp [results, Try.results22, go_sem, hz]) rfl ?_
          have R := tk_ret (k := ⟨tkL ents (eps + 1) ents.length, eps + 1⟩) (ps := tkP ents ents.length) (A := AA1) (c := cc1) (A' := Ap) (c' := cp) (xs := ys) (ef := 0) J.out.bel J.out.zb (by omega) (by dsimp only; rw [tkL_len]; exact J.out.own) J.out.pl (Nat.le_refl _)
          simp only [tkL_len] at R
          rw [HP.out, HPK.out, HPP.out]
          exact R
    · have hpe : pe = 193 := by rw [HPE2.out, if_neg h16]
      have HP := Lib.hid hpe
      have HPK := Lib.hid (HKP.out (by rw [hpe]; decide))
      have hge : (k.eps == 16) = true := by rw [beq_iff_eq]; omega
      clear hpe
      go_wp2_with (go_at_call 16; refine (rcheck_any A c k _ D3.out.ents D3.out.cap D3.out.cm).mono ?_; rw [HCK.out]; simp only [errOf, if_true]; rintro e w4 ⟨rfl, hB4⟩; have z4 := Z3.out.below hB4 Z3.out.lt; have o4 := O3.out.after hB4; have d4 := D3.out.after hB4; have r2 := o4.blk.cell; have r2f := o4.blk.frozen; have r3 := z4.cell; have r4 := z4.frozen; obtain ⟨r5, r6⟩ := d4.cells; have Z4 := Lib.hid z4; have O4 := Lib.hid o4; have HB4 := Lib.hid (keepB hB4 HB3.out); clear hB4 z4 o4 d4)
      refine bodyPost_ret (v := .tuple #[bkv AA1 k.ents.length cc1 k.eps, .slice none 0 0, .int .i64 193]) (by simp [results, Try.results22, go_sem, r3]) rfl ?_
      rw [HP.out, HPK.out.1, HPK.out.2]
      exact tk_ret (ps := []) (A' := none) (c' := 0) HB4.out Z4.out (by omega) O4.out.own (World.ownsRow_nil _ _ _ _) (by omega)
end Go.Proofs.Ytkiijbbcfbkecaa
