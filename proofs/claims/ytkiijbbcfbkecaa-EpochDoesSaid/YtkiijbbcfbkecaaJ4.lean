/- What Tick does to its book. -/
import Derived.Test.YtkiijbbcfbkecaaJ3
import Derived.RegionTactic
import Derived.ChangeAlike
namespace Go.Proofs.Ytkiijbbcfbkecaa
open Go.RowKit
set_option linter.unusedVariables false

theorem infoTI : (Try.prog.info? 3).map (fun i => (i.zero, i.size, i.bytes)) = some (some (.int .i64 0), 1, 8) := by kernel_rfl
/-- Places as cells. -/
def pvs (l : List Nat) : List Value := l.map fun (p : Nat) => .int .i64 (p : Int)
theorem pvs_snoc (l : List Nat) (p : Nat) : pvs (l ++ [p]) = pvs l ++ [.int .i64 (p : Int)] := by simp [pvs]
/-- What Tick's function keeps: all below n0, and the places in their box. -/
def KpT (n0 : Nat) (w0 : World) (Bp : Nat) (ps : List Nat) (w' : World) : Prop := Below n0 w0 w' ∧ ∃ V, Blk w' Bp 38 #[V] ∧ w'.ownsRow n0 3 1 V ps.length (pvs ps)
theorem own_far_t {w w' : World} {base b n size : Nat} {e t : TypeId} {v : Value} {xs : List Value} {cs : Array Value} (ho : w.ownsRow base e size v n xs) (hg : w.grownBy w' (some b)) (hb : Blk w b t cs) (hne : t ≠ e) : w'.ownsRow base e size v n xs := by
  refine ho.kept hg ?_
  rcases hb' : v.ownBlock with _ | g
  · exact .inl rfl
  · refine .inr fun e => ?_
    injection e with e
    subst e
    obtain ⟨c, hc, _⟩ := own_block ho hb'
    unfold Blk at hb
    rw [hb] at hc
    injection hc with hc
    injection hc with _ ht
    exact hne ht
theorem KpT.set_ {n0 : Nat} {w0 : World} {Bp : Nat} {ps : List Nat} {W : World} {g i : Nat} {cs : Array Value} {u : Value} (hg : n0 ≤ g) (hb : Blk W g 25 cs) (h : KpT n0 w0 Bp ps W) : KpT n0 w0 Bp ps (W.setCell ⟨g, i, none⟩ u) := by
  obtain ⟨h1, V, h2, h3⟩ := h
  exact ⟨h1.setCell (p := ⟨g, i, none⟩) hg u, V, h2.far (p := ⟨g, i, none⟩) (blk_ne h2 hb (by decide)) u, own_far_t h3 (grown_setCell W ⟨g, i, none⟩ u) hb (by decide)⟩

theorem int_one (a : Int) : ∀ u ∈ [Value.int .i64 a], u.oneCell' = true := by
  intro u hu
  simp at hu
  subst hu
  rfl
theorem rd_fit {w : World} {p : Addr} {v u : Value} {t : TypeId} (h : Rd ((w.setCell p v).alloc (.cells #[u] t)) ((w.setCell p v).heap.size + 1) (some ⟨(w.setCell p v).heap.size, 0, none⟩) (1 * 1) [u]) : Rd ((w.setCell p v).alloc (.cells #[u] t)).drew (w.heap.size + 1) (some ⟨w.heap.size, 0, none⟩) (1 * 1) [u] := by
  have e : (w.setCell p v).heap.size = w.heap.size := by simp [World.setCell]
  rw [e] at h
  exact h
/-- What holds behind j entries. -/
structure TkInv (w0 wr : World) (n0 base bc z Bp sz : Nat) (A' : Option Addr) (c' : Nat) (ents : List Ent) (eps : Int) (V : Value) (ys : List Value) (j : Nat) : Prop where
  box : Blk wr bc 25 #[.slice A' ents.length c', .int .i64 (eps + 1)]
  own : OwnE wr base (.slice A' ents.length c') ys (tkL ents (eps + 1) j)
  pb : Blk wr Bp 38 #[V]
  pl : wr.ownsRow base 3 1 V (tkP ents j).length (pvs (tkP ents j))
  bel : Below n0 w0 wr
  zb : Blk wr z 25 zbk
  sz : sz ≤ wr.heap.size
theorem TkInv.keep {w0 wr : World} {n0 base bc z Bp sz : Nat} {A' : Option Addr} {c' : Nat} {ents : List Ent} {eps : Int} {V : Value} {ys : List Value} {j : Nat} (h : TkInv w0 wr n0 base bc z Bp sz A' c' ents eps V ys j) {x : Ent} (hx : ents[j]? = some x) (h0 : x.ep ≠ 0) : TkInv w0 wr n0 base bc z Bp sz A' c' ents eps V ys (j + 1) :=
  ⟨h.box, by rw [tkL_keep hx h0]; exact h.own, h.pb, by rw [tkP_keep hx h0]; exact h.pl, h.bel, h.zb, h.sz⟩
theorem TkInv.full {w0 wr : World} {n0 base bc z Bp sz : Nat} {A' : Option Addr} {c' : Nat} {ents : List Ent} {eps : Int} {V : Value} {ys : List Value} {j : Nat} (h : TkInv w0 wr n0 base bc z Bp sz A' c' ents eps V ys j) (h4 : ¬ (tkP ents j).length < 4) (hj : j ≤ ents.length) : TkInv w0 wr n0 base bc z Bp sz A' c' ents eps V ys ents.length := by
  obtain ⟨e1, e2⟩ := tk_full_all (ep := eps + 1) h4 (ents.length - j)
  rw [show j + (ents.length - j) = ents.length by omega] at e1 e2
  exact ⟨h.box, by rw [e2]; exact h.own, h.pb, by rw [e1]; exact h.pl, h.bel, h.zb, h.sz⟩
theorem TkInv.next {w0 wr w9 : World} {n0 base bc z Bp sz G : Nat} {c' : Nat} {ents : List Ent} {eps : Int} {V V' : Value} {ys : List Value} {j : Nat} {o : Obj} (hn0 : n0 ≤ base) (hs : base ≤ sz) (hbp : n0 ≤ Bp) (hG : base ≤ G) (h : TkInv w0 wr n0 base bc z Bp sz (some ⟨G, 0, none⟩) c' ents eps V ys j) {x : Ent} (hx : ents[j]? = some x) (h0 : x.ep = 0) (h4 : (tkP ents j).length < 4)
    (hown9 : w9.ownsRow base 3 1 V' ((tkP ents j).length + 1) (pvs (tkP ents j) ++ [.int .i64 (j : Int)])) (hgr9 : ((wr.setCell ⟨G, j * 5 + 3, none⟩ (.int .i64 (eps + 1))).alloc o).grownBy w9 V.ownBlock) :
    TkInv w0 (w9.setCell ⟨Bp, 0, none⟩ V') n0 base bc z Bp sz (some ⟨G, 0, none⟩) c' ents eps V' (ys.set (j * 5 + 3) (.int .i64 (eps + 1))) (j + 1) := by
  obtain ⟨cur, hg⟩ := h.own.blk rfl
  have hxj : (tkL ents (eps + 1) j)[j]? = some x := (tkL_ahead ents (eps + 1) (Nat.le_refl j)).trans hx
  have hnl : ents.length = (tkL ents (eps + 1) j).length := (tkL_len _ _ _).symm
  obtain ⟨o2, g2⟩ := h.own.setEp hxj (eps + 1)
  have hgs := grown_setCell wr ⟨G, j * 5 + 3, none⟩ (.int .i64 (eps + 1))
  have pl2 := (own_far_t h.pl hgs hg (by decide)).alloc o
  have pb2 := (h.pb.far (p := ⟨G, j * 5 + 3, none⟩) (blk_ne h.pb hg (by decide)) (.int .i64 (eps + 1))).alloc o
  have b2 := (h.box.far (p := ⟨G, j * 5 + 3, none⟩) (blk_ne h.box hg (by decide)) (.int .i64 (eps + 1))).alloc o
  have z2 := (h.zb.far (p := ⟨G, j * 5 + 3, none⟩) (blk_ne h.zb hg (by decide)) (.int .i64 (eps + 1))).alloc o
  have pb3 := blk_far hgr9 pb2 pl2 (by decide)
  have b3 := blk_far hgr9 b2 pl2 (by decide)
  have z3 := blk_far hgr9 z2 pl2 (by decide)
  have o3 := (o2.alloc o).grown hgr9 (fun g cur t e hh => by
    obtain ⟨c, hc, _⟩ := own_block pl2 e
    rw [hc] at hh
    injection hh with hh
    injection hh with _ ht
    subst ht
    exact ⟨by decide, by decide⟩)
  have hgb := grown_setCell w9 ⟨Bp, 0, none⟩ V'
  have hsz := h.sz
  refine ⟨b3.far (p := ⟨Bp, 0, none⟩) (blk_ne b3 pb3 (by decide)) _, ?_, ?_, ?_, ?_, z3.far (p := ⟨Bp, 0, none⟩) (blk_ne z3 pb3 (by decide)) _, ?_⟩
  · rw [tkL_set hx h0 h4]
    exact o3.grownB hgb pb3 (by decide) (by decide)
  · have := pb3.set_ 0 V'
    simpa using this
  · rw [tkP_set hx h0 h4, pvs_snoc, List.length_append]
    exact own_far_t hown9 hgb pb3 (by decide)
  · have h1 := (h.bel.setCell (p := ⟨G, j * 5 + 3, none⟩) (Nat.le_trans hn0 hG) (.int .i64 (eps + 1))).alloc (by simp [World.setCell]; omega) o
    exact (h1.grown hgr9 (by simp [World.setCell]; omega) (fun k e => by obtain ⟨_, _, hh, _⟩ := own_block h.pl e; omega)).setCell (p := ⟨Bp, 0, none⟩) hbp _
  · have := hgr9.size
    simp [World.setCell] at this ⊢
    omega
theorem TkInv.close {W w0 wr : World} {n0 base bc z Bp sz : Nat} {A' : Option Addr} {c' : Nat} {ents : List Ent} {eps : Int} {V : Value} {ys : List Value} (hn0 : n0 ≤ base) (h : TkInv w0 wr n0 base bc z Bp sz A' c' ents eps V ys ents.length) :
    DoRet (KpT n0 w0 Bp (tkP ents ents.length)) base bc z ⟨tkL ents (eps + 1) ents.length, eps + 1⟩ 0 W (.returned (.int .i64 0)) wr := by
  refine ⟨rfl, fun h => absurd rfl h, fun _ => ⟨A', c', ys, ?_, ?_, ⟨h.bel, V, h.pb, own_less h.pl hn0⟩, h.zb⟩⟩
  · dsimp only
    rw [tkL_len]
    exact h.box
  · dsimp only
    rw [tkL_len]
    exact h.own

set_option maxRecDepth 100000 in
set_option maxHeartbeats 2000000 in
theorem tick1_any (W w0 : World) (base bc z Bp n0 : Nat) (A' : Option Addr) (c' : Nat) (xs : List Value) (k : Bk)
    (hck : checkBk k = true) (hn0 : n0 ≤ base) (hbase : base ≤ bc) (hz : z < base) (hbp : n0 ≤ Bp) (bz : Blk W z 25 zbk) (bb : Blk W bc 25 #[.slice A' k.ents.length c', .int .i64 k.eps]) (hO : OwnE W base (.slice A' k.ents.length c') xs k.ents)
    (bp : Blk W Bp 38 #[.slice none 0 0]) (hBe : Below n0 w0 W) :
    Calls Try.prog 39 #[.pointer (some ⟨bc, 0, none⟩), .pointer (some ⟨Bp, 0, none⟩)] W (DoRet (KpT n0 w0 Bp (tickPl k)) base bc z (tickK k) (tickE k) W) := by
  obtain ⟨i3, hi3, hz3, hs3, hb3⟩ := info_parts infoTI
  obtain ⟨A'', c'', hV', hc1, hc2⟩ := hO.form
  simp only [Value.slice.injEq] at hV'
  obtain ⟨rfl, _, rfl⟩ := hV'
  have hlen : k.ents.length ≤ 72 := by simp [checkBk] at hck; omega
  have heps : 0 ≤ k.eps ∧ k.eps ≤ 16 := by simp [checkBk] at hck; omega
  have hep0 : ∀ (i : Nat) (x : Ent), k.ents[i]? = some x → 0 ≤ x.ep := fun i x hx => (check_ep hck (List.mem_of_getElem? hx)).1
  have HEP := Lib.hid hep0
  obtain ⟨pe, hpe⟩ : ∃ pe, pe = tickE k := ⟨_, rfl⟩
  obtain ⟨pk, hpk⟩ : ∃ pk, pk = tickK k := ⟨_, rfl⟩
  obtain ⟨pp, hpp⟩ : ∃ pp, pp = tickPl k := ⟨_, rfl⟩
  rw [← hpe, ← hpk, ← hpp]
  have HPE := Lib.hid hpe
  have HPK := Lib.hid hpk
  have HPP := Lib.hid hpp
  have HSB := Lib.hid (show base ≤ W.heap.size by have := bb.lt; omega)
  have HC := Lib.hid hck
  clear hpe hpk hpp hep0 hck
  obtain ⟨ents, eps⟩ := k
  dsimp only at bb hO hlen heps hc1 HEP ⊢
  obtain ⟨he0, he1⟩ := heps
  have cB := bb.cell
  have HO := Lib.hid hO
  have BB := Lib.hid bb
  have BP := Lib.hid bp
  have BZ := Lib.hid bz
  have HBE := Lib.hid hBe
  have f1 := bb.frozen
  clear bz bb hO bp hBe
  by_cases h16 : eps < 16
  · have hpe : pe = 0 := by rw [HPE.out]; simp [tickE, HC.out, h16]
    have hpk : pk = ⟨tkL ents (eps + 1) ents.length, eps + 1⟩ := by rw [HPK.out]; unfold tickK; rw [if_pos (by rw [← HPE.out]; exact hpe)]
    have hpp : pp = tkP ents ents.length := by rw [HPP.out]; unfold tickPl; rw [if_pos (by rw [← HPE.out]; exact hpe)]
    rw [hpe, hpk, hpp]
    have hge : decide ((16 : Int) ≤ eps) = false := by simp; omega
    have hb2 := BB.out.set_ 1 (.int .i64 (eps + 1))
    have cB2 := hb2.cell
    clear hpe hpk hpp HPE HPK HPP
    go_enter Try.func39, Try.ntmps39
    go_wp2_with fail
    go_step3
    go_wp2_with fail
    go_step3
    go_wp2
    have hI : TkInv w0 (W.setCell ⟨bc, 1, none⟩ (.int .i64 (eps + 1))) n0 base bc z Bp W.heap.size A' c' ents eps (.slice none 0 0) xs 0 :=
      ⟨by simpa using hb2, HO.out.grownB (grown_setCell W ⟨bc, 1, none⟩ _) BB.out (by decide) (by decide), BP.out.far (p := ⟨bc, 1, none⟩) (blk_ne BP.out BB.out (by decide)) _, World.ownsRow_nil _ _ _ _, HBE.out.setCell (p := ⟨bc, 1, none⟩) (Nat.le_trans hn0 hbase) _, BZ.out.far (p := ⟨bc, 1, none⟩) (by simp; omega) _, by simp [World.setCell]⟩
    have HI := Lib.hid hI
    have hsb := HSB.out
    clear hI hb2 cB2 cB f1
    go_loopw [22] (fun i wr => ∃ (j : Nat) (V : Value) (ys : List Value), j ≤ ents.length ∧ i = .int .i64 j ∧ TkInv w0 wr n0 base bc z Bp W.heap.size A' c' ents eps V ys j) (fun i _ => ents.length - (intOf i).toNat)
    case atStart => exact ⟨0, _, xs, Nat.zero_le _, rfl, HI.out⟩
    case round =>
      obtain ⟨j, V, ys, hj, rfl, hJ⟩ := hrel
      have J := Lib.hid hJ
      have cB := hJ.box.cell
      have hjl := (tkP_le ents j).1
      by_cases hlt : j < ents.length
      · have hxx : ents[j]? = some ents[j] := List.getElem?_eq_getElem hlt
        obtain ⟨x, hx⟩ : ∃ x, ents[j]? = some x := ⟨_, hxx⟩
        have hx0 := HEP.out j x hx
        have hltk : j < (tkL ents (eps + 1) j).length := by rw [tkL_len]; exact hlt
        obtain ⟨G, cap, x', Al', cl', Av', cv', hV, hq1, hq2, hGb, hGl, hx', g1, g2, g3, g4, g5, gf⟩ := hJ.own.at_ hltk
        rw [tkL_ahead ents (eps + 1) (Nat.le_refl j), hx] at hx'
        injection hx' with hx'
        subst hx'
        simp only [Value.slice.injEq] at hV
        obtain ⟨rfl, hxl, rfl⟩ := hV
        clear hxl
        have HX := Lib.hid hx
        have hk0 : (0 : Int) ≤ (j : Int) := by omega
        have hk1 : (j : Int) < (ents.length : Int) := by omega
        clear hx hxx hltk HI
        by_cases h0 : x.ep = 0
        · have h0b : decide (0 < x.ep) = false := by simp; omega
          have H0 := Lib.hid h0
          clear h0
          obtain ⟨Ap, cp, rfl, p1, p2⟩ := own_form hJ.pl
          have cP := hJ.pb.cell
          by_cases h4 : (tkP ents j).length < 4
          · have h4b : (((tkP ents j).length : Int) == 4) = false := by rw [beq_eq_false_iff_ne]; omega
            have H4 := Lib.hid h4
            clear hJ h4
            go_wp2
            go_region
            all_goals
              obtain ⟨cur, hgb⟩ := J.out.own.blk rfl
              have hnp := blk_ne J.out.pb hgb (by decide)
              have P2 := Lib.hid (J.out.pb.far (p := ⟨G, j * 5 + 3, none⟩) hnp (.int .i64 (eps + 1)))
              have cP2 := P2.out.cell
              have PL := Lib.hid ((own_far_t J.out.pl (grown_setCell wr ⟨G, j * 5 + 3, none⟩ (.int .i64 (eps + 1))) hgb (by decide)).alloc (.cells #[.int .i64 (j : Int)] 3))
              have P3 := Lib.hid (P2.out.alloc (.cells #[.int .i64 (j : Int)] 3))
              have RD := Lib.hid (rd_new (wr.setCell ⟨G, j * 5 + 3, none⟩ (.int .i64 (eps + 1))) (.int .i64 (j : Int)) 3)
              have m1 : (tkP ents j).length + 1 ≤ maxLen := by unfold maxLen; omega
              have m2 : ((tkP ents j).length + 1) * 8 ≤ 140737488355328 := by omega
              have m3 : base ≤ ((wr.setCell ⟨G, j * 5 + 3, none⟩ (.int .i64 (eps + 1))).alloc (.cells #[.int .i64 (j : Int)] 3)).drew.heap.size := by have := J.out.sz; show base ≤ ((wr.setCell ⟨G, j * 5 + 3, none⟩ (.int .i64 (eps + 1))).alloc (.cells #[.int .i64 (j : Int)] 3)).heap.size; simp [World.setCell]; omega
              have M1 := Lib.hid m1
              have M2 := Lib.hid m2
              have M3 := Lib.hid m3
              clear hgb m1 m2 m3
              go_wp2_with (at_builtin; refine wpList_append_any _ rfl (.tmp 48) (.tmp 50) 38 rfl base 3 i3 (.int .i64 0) 1 8 Try.underlying38 hi3 hz3 hs3 hb3 rfl (by omega) (.slice Ap (tkP ents j).length cp) (tkP ents j).length (pvs (tkP ents j)) rfl (by exact PL.out) (wr.heap.size + 1) (some ⟨wr.heap.size, 0, none⟩) 1 1 [.int .i64 (j : Int)] rfl (by exact rd_fit RD.out) (int_one _) M1.out M2.out M3.out ?_; intro v9 w9 hown9 hgr9 hat9; obtain ⟨A9, cc9, rfl, q1, q2⟩ := own_form hown9; have b9 := blk_far hgr9 (by exact P3.out) (by exact PL.out) (by decide); have c9 := b9.cell; have f9 := b9.frozen)
              go_roundw
              case rel => exact ⟨j + 1, _, _, by omega, by go_num, J.out.next hn0 hsb hbp hGb HX.out H0.out H4.out hown9 ⟨hgr9.os, hgr9.tape, hgr9.output, hgr9.size, hgr9.block⟩⟩
              case measure => simp [intOf]; omega
          · have h4b : (((tkP ents j).length : Int) == 4) = true := by rw [beq_iff_eq]; omega
            have H4 := Lib.hid h4
            clear h4 hJ
            go_wp2
            rw [Exit.noGoto_ret]
            go_ret
            exact (J.out.full H4.out hj).close hn0
        · have h0b : decide (0 < x.ep) = true := by simp; omega
          have H0 := Lib.hid h0
          clear h0 hJ
          go_wp2
          go_roundw
          case rel => exact ⟨j + 1, _, _, by omega, by go_num, J.out.keep HX.out H0.out⟩
          case measure => simp [intOf]; omega
      · obtain rfl : j = ents.length := by omega
        clear hJ
        go_wp2
        rw [Exit.noGoto_ret]
        go_ret
        exact J.out.close hn0
  · have hpe : pe = 193 := by rw [HPE.out]; simp [tickE, HC.out, h16]
    have HP := Lib.hid hpe
    have hge : decide ((16 : Int) ≤ eps) = true := by simp; omega
    clear hpe
    go_enter Try.func39, Try.ntmps39
    go_wp2_with fail
    go_step3
    go_wp2
    rw [Exit.noGoto_ret]
    go_ret
    exact ⟨ret_i HP.out.symm, fun _ => Below.refl _ _, fun h => absurd (HP.out.symm.trans h) (by decide)⟩
end Go.Proofs.Ytkiijbbcfbkecaa
