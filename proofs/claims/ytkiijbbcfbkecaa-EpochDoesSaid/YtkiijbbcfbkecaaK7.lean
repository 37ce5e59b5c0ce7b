/- EpochDoes, walked. -/
import Derived.Test.YtkiijbbcfbkecaaK1
import Derived.Test.YtkiijbbcfbkecaaH5
import Derived.Test.YtkiijbbcfbkecaaH3
import Derived.Test.YtkiijbbcfbkecaaH4
import Derived.Test.YtkiijbbcfbkecaaC4
namespace Go.Proofs.Ytkiijbbcfbkecaa
open Go.RowKit
set_option linter.unusedVariables false
set_option linter.unusedSimpArgs false

theorem few_sm {l : List Ent} (h : fewE l = true) : SmE l := by
  unfold fewE at h
  simp only [Bool.and_eq_true, decide_eq_true_eq, List.all_eq_true] at h
  refine ⟨by omega, fun i x hx => ?_⟩
  have := h.2 x (List.mem_of_getElem? hx)
  omega
theorem numbers_pl (A A' : Option Addr) (c c' : Nat) (ps : List Nat) (w : World) {B B' : Nat} (h : Rd w B A ps.length (pvs ps)) (h' : Rd w B' A' ps.length (pvs ps)) (hn : ps.length ≤ 1000) :
    Calls Try.prog 26 #[.slice A ps.length c, .slice A' ps.length c'] w fun e w' => e = .returned (.bool true) ∧ Below w.heap.size w w' := by
  have e : pvs ps = ivs (ps.map fun (p : Nat) => (p : Int)) := by simp [pvs, ivs]
  have l : (ps.map fun (p : Nat) => (p : Int)).length = ps.length := by simp
  rw [e, ← l] at h h'
  rw [← l] at hn ⊢
  exact numbers_eq A A' c c' _ w h h' hn
theorem tickPl_le (k : Bk) : (tickPl k).length ≤ 1000 := by
  unfold tickPl
  split
  · have := (tkP_le k.ents k.ents.length).1
    omega
  · simp
/-- Six books in boxes: what their cells hold. -/
theorem six_cells {W w' : World} {base b1 b2 b3 b4 b5 b6 c1 c2 c3 c4 c5 c6 : Nat} {A1 A2 A3 A4 A5 A6 : Option Addr} {x1 x2 x3 x4 x5 x6 : List Value} {p q r : Bk} (o1 : OBox W b1 base A1 c1 x1 p) (o2 : OBox W b2 base A2 c2 x2 p) (o3 : OBox W b3 base A3 c3 x3 q) (o4 : OBox W b4 base A4 c4 x4 q) (o5 : OBox W b5 base A5 c5 x5 r) (o6 : OBox W b6 base A6 c6 x6 r) (h : Below W.heap.size W w') :
    (w'.cell? ⟨b1, 0, none⟩ = some (.slice A1 p.ents.length c1) ∧ w'.cell? ⟨b1, 1, none⟩ = some (.int .i64 p.eps)) ∧ (w'.cell? ⟨b2, 0, none⟩ = some (.slice A2 p.ents.length c2) ∧ w'.cell? ⟨b2, 1, none⟩ = some (.int .i64 p.eps)) ∧
    (w'.cell? ⟨b3, 0, none⟩ = some (.slice A3 q.ents.length c3) ∧ w'.cell? ⟨b3, 1, none⟩ = some (.int .i64 q.eps)) ∧ (w'.cell? ⟨b4, 0, none⟩ = some (.slice A4 q.ents.length c4) ∧ w'.cell? ⟨b4, 1, none⟩ = some (.int .i64 q.eps)) ∧
    (w'.cell? ⟨b5, 0, none⟩ = some (.slice A5 r.ents.length c5) ∧ w'.cell? ⟨b5, 1, none⟩ = some (.int .i64 r.eps)) ∧ (w'.cell? ⟨b6, 0, none⟩ = some (.slice A6 r.ents.length c6) ∧ w'.cell? ⟨b6, 1, none⟩ = some (.int .i64 r.eps)) :=
  ⟨(o1.after h).box.cells, (o2.after h).box.cells, (o3.after h).box.cells, (o4.after h).box.cells, (o5.after h).box.cells, (o6.after h).box.cells⟩

set_option maxRecDepth 100000 in
set_option maxHeartbeats 8000000 in
theorem does_walk (A : Option Addr) (c : Nat) (k : Bk) (Al : Option Addr) (cl : Nat) (lab : List UInt8) (Av : Option Addr) (cv : Nat) (val : List UInt8) (ver : Int) (w : World) (hA : Ents w w.heap.size A k.ents.length k.ents) (h1 : k.ents.length ≤ c) (h2 : c ≤ maxLen) (hL : Rd w w.heap.size Al lab.length (bvs lab)) (hV : Rd w w.heap.size Av val.length (bvs val)) :
    Calls Try.prog 5 #[bkv A k.ents.length c k.eps, .slice Al lab.length cl, .slice Av val.length cv, .int .i64 ver] w fun e w' => e = .returned (.bool true) ∧ Below w.heap.size w w' := by
  have D0 := Lib.hid (BBox.arg hA h1 h2)
  have HLb := Lib.hid hL
  have HVb := Lib.hid hV
  clear hA hL hV h1 h2
  obtain ⟨q0, q1⟩ := D0.out.cells
  cases hf : fewE k.ents
  · have HF := Lib.hid hf
    clear hf
    go_enter Try.func5, Try.ntmps5
    go_wp2_with (first
      | (go_at_call 9; refine (awake_any _).mono ?_; rintro e w1 ⟨rfl, hB1⟩; have D1 := Lib.hid (D0.out.after hB1); have HB1 := Lib.hid (keepB hB1 (below_one w _)); clear q0 q1 hB1; obtain ⟨q0, q1⟩ := D1.out.cells)
      | (go_at_call 10; refine (fewE_any A c k _ D1.out.ents D1.out.cap D1.out.cm).mono ?_; rw [HF.out]; rintro e w2 ⟨rfl, hB2⟩; have HB2 := Lib.hid (keepB hB2 HB1.out); have D2 := Lib.hid (D1.out.after hB2); clear hB2 q0 q1))
    go_ret
    exact ⟨rfl, HB2.out⟩
  · have HF := Lib.hid hf
    have HS := Lib.hid (few_sm hf)
    clear hf
    by_cases hl : lab.length ≤ 300
    · have hlb : decide ((300 : Int) < (lab.length : Int)) = false := decide_eq_false (by omega)
      have hlb2 : decide (300 < lab.length) = false := decide_eq_false (by omega)
      by_cases hv : val.length ≤ 300
      · have hvb : decide ((300 : Int) < (val.length : Int)) = false := decide_eq_false (by omega)
        have hvb2 : decide (300 < val.length) = false := decide_eq_false (by omega)
        have HL3 := Lib.hid (show lab.length ≤ 1000 by omega)
        have HV3 := Lib.hid (show val.length ≤ 1000 by omega)
        clear hl hv
        obtain ⟨p, hp⟩ : ∃ p, p = pubK k lab val := ⟨_, rfl⟩
        obtain ⟨pe, hpe⟩ : ∃ p, p = pubE k lab val := ⟨_, rfl⟩
        obtain ⟨q, hq⟩ : ∃ p, p = tickK k := ⟨_, rfl⟩
        obtain ⟨qe, hqe⟩ : ∃ p, p = tickE k := ⟨_, rfl⟩
        obtain ⟨ps, hps⟩ : ∃ p, p = tickPl k := ⟨_, rfl⟩
        obtain ⟨r, hr⟩ : ∃ p, p = eraK k lab ver := ⟨_, rfl⟩
        obtain ⟨re, hre⟩ : ∃ p, p = eraE k lab ver := ⟨_, rfl⟩
        have HPL := Lib.hid (show ps.length ≤ 1000 by rw [hps]; exact tickPl_le k)
        have H1 := Lib.hid hp
        have H2 := Lib.hid hpe
        have H3 := Lib.hid hq
        have H4 := Lib.hid hqe
        have H5 := Lib.hid hps
        have H6 := Lib.hid hr
        have H7 := Lib.hid hre
        clear hp hpe hq hqe hps hr hre
        go_enter Try.func5, Try.ntmps5
        go_upto_region 5 with (first
          | (go_at_call 9; refine (awake_any _).mono ?_; rintro e w1 ⟨rfl, hB1⟩; have D1 := Lib.hid (D0.out.after hB1); have HB1 := Lib.hid (keepB hB1 (below_one w _)); clear q0 q1 hB1; obtain ⟨q0, q1⟩ := D1.out.cells)
          | (go_at_call 10; refine (fewE_any A c k _ D1.out.ents D1.out.cap D1.out.cm).mono ?_; rw [HF.out]; rintro e w2 ⟨rfl, hB2⟩; have HB2 := Lib.hid (keepB hB2 HB1.out); have HW0 := HB2; have DD0 := Lib.hid (D1.out.after hB2); have hle0 : w.heap.size ≤ w2.heap.size := HB2.out.size; clear hB2 q0 q1; obtain ⟨q0, q1⟩ := DD0.out.cells)
          | (go_at_call 19; refine (publish_any A c k Al cl lab Av cv val _ DD0.out.ents DD0.out.cap DD0.out.cm HS.out (rd_after HLb.out HW0.out) (rd_after HVb.out HW0.out) HL3.out HV3.out).mono ?_; rw [← H1.out, ← H2.out]; rintro e v1 ⟨A1, c1, x1, rfl, hO, hB⟩))
        have o1 := OBox.new (k := p) hO hle0
        have hN := bel_alloc (o := .cells #[.slice A1 p.ents.length c1, .int .i64 p.eps] 25) hB
        generalize (v1.alloc (.cells #[.slice A1 p.ents.length c1, .int .i64 p.eps] 25)) = W1 at o1 hN ⊢
        generalize v1.heap.size = b1 at o1 ⊢
        have O1 := Lib.hid o1
        have DD1 := Lib.hid (DD0.out.after hN)
        have HW1 := Lib.hid (keepB hN HW0.out)
        have hle1 : w.heap.size ≤ W1.heap.size := HW1.out.size
        clear hO hB hN o1 q0 q1 DD0 HW0 hle0
        obtain ⟨q0, q1⟩ := DD1.out.cells
        go_upto_region 6 with (go_at_call 20; refine (rpublish_any A c k Al cl lab Av cv val _ DD1.out.ents DD1.out.cap DD1.out.cm HS.out (rd_after HLb.out HW1.out) (rd_after HVb.out HW1.out) HL3.out HV3.out).mono ?_; rw [← H1.out, ← H2.out]; rintro e v2 ⟨A2, c2, x2, rfl, hO, hB⟩)
        have o2 := OBox.new (k := p) hO hle1
        have hN := bel_alloc (o := .cells #[.slice A2 p.ents.length c2, .int .i64 p.eps] 25) hB
        generalize (v2.alloc (.cells #[.slice A2 p.ents.length c2, .int .i64 p.eps] 25)) = W2 at o2 hN ⊢
        generalize v2.heap.size = b2 at o2 ⊢
        have O2 := Lib.hid o2
        have O1 := Lib.hid (O1.out.after hN)
        have DD2 := Lib.hid (DD1.out.after hN)
        have HW2 := Lib.hid (keepB hN HW1.out)
        have hle2 : w.heap.size ≤ W2.heap.size := HW2.out.size
        clear hO hB hN o2 q0 q1 DD1 HW1 hle1
        obtain ⟨q0, q1⟩ := DD2.out.cells
        go_upto_region 7 with (go_at_call 21; refine (tick_any A c k _ DD2.out.ents DD2.out.cap DD2.out.cm HS.out).mono ?_; rw [← H3.out, ← H4.out, ← H5.out]; rintro e v3 ⟨A3, c3, x3, P3, d3, rfl, hO, hP, hB⟩)
        have o3 := OBox.new (k := q) hO hle2
        have hN := bel_alloc (o := .cells #[.slice A3 q.ents.length c3, .int .i64 q.eps] 25) hB
        have hR := rd_after (own_rd hP) (below_one v3 (.cells #[.slice A3 q.ents.length c3, .int .i64 q.eps] 25))
        generalize (v3.alloc (.cells #[.slice A3 q.ents.length c3, .int .i64 q.eps] 25)) = W3 at o3 hN hR ⊢
        generalize v3.heap.size = b3 at o3 ⊢
        have O3 := Lib.hid o3
        have O1 := Lib.hid (O1.out.after hN)
        have O2 := Lib.hid (O2.out.after hN)
        have R3 := Lib.hid hR
        have DD3 := Lib.hid (DD2.out.after hN)
        have HW3 := Lib.hid (keepB hN HW2.out)
        have hle3 : w.heap.size ≤ W3.heap.size := HW3.out.size
        clear hO hB hN o3 q0 q1 DD2 HW2 hle2 hP hR
        obtain ⟨q0, q1⟩ := DD3.out.cells
        go_upto_region 8 with (go_at_call 22; refine (rtick_any A c k _ DD3.out.ents DD3.out.cap DD3.out.cm HS.out).mono ?_; rw [← H3.out, ← H4.out, ← H5.out]; rintro e v4 ⟨A4, c4, x4, P4, d4, rfl, hO, hP, hB⟩)
        have o4 := OBox.new (k := q) hO hle3
        have hN := bel_alloc (o := .cells #[.slice A4 q.ents.length c4, .int .i64 q.eps] 25) hB
        have hR := rd_after (own_rd hP) (below_one v4 (.cells #[.slice A4 q.ents.length c4, .int .i64 q.eps] 25))
        generalize (v4.alloc (.cells #[.slice A4 q.ents.length c4, .int .i64 q.eps] 25)) = W4 at o4 hN hR ⊢
        generalize v4.heap.size = b4 at o4 ⊢
        have O4 := Lib.hid o4
        have O1 := Lib.hid (O1.out.after hN)
        have O2 := Lib.hid (O2.out.after hN)
        have O3 := Lib.hid (O3.out.after hN)
        have R3 := Lib.hid (rd_after R3.out hN)
        have R4 := Lib.hid hR
        have DD4 := Lib.hid (DD3.out.after hN)
        have HW4 := Lib.hid (keepB hN HW3.out)
        have hle4 : w.heap.size ≤ W4.heap.size := HW4.out.size
        clear hO hB hN o4 q0 q1 DD3 HW3 hle3 hP hR
        obtain ⟨q0, q1⟩ := DD4.out.cells
        go_upto_region 9 with (go_at_call 23; refine (erase_any A c k Al cl lab ver _ DD4.out.ents DD4.out.cap DD4.out.cm HS.out (rd_after HLb.out HW4.out)).mono ?_; rw [← H6.out, ← H7.out]; rintro e v5 ⟨A5, c5, x5, rfl, hO, hB⟩)
        have o5 := OBox.new (k := r) hO hle4
        have hN := bel_alloc (o := .cells #[.slice A5 r.ents.length c5, .int .i64 r.eps] 25) hB
        generalize (v5.alloc (.cells #[.slice A5 r.ents.length c5, .int .i64 r.eps] 25)) = W5 at o5 hN ⊢
        generalize v5.heap.size = b5 at o5 ⊢
        have O5 := Lib.hid o5
        have O1 := Lib.hid (O1.out.after hN)
        have O2 := Lib.hid (O2.out.after hN)
        have O3 := Lib.hid (O3.out.after hN)
        have O4 := Lib.hid (O4.out.after hN)
        have R3 := Lib.hid (rd_after R3.out hN)
        have R4 := Lib.hid (rd_after R4.out hN)
        have DD5 := Lib.hid (DD4.out.after hN)
        have HW5 := Lib.hid (keepB hN HW4.out)
        have hle5 : w.heap.size ≤ W5.heap.size := HW5.out.size
        clear hO hB hN o5 q0 q1 DD4 HW4 hle4
        obtain ⟨q0, q1⟩ := DD5.out.cells
        go_upto_region 10 with (go_at_call 24; refine (rerase_any A c k Al cl lab ver _ DD5.out.ents DD5.out.cap DD5.out.cm HS.out (rd_after HLb.out HW5.out)).mono ?_; rw [← H6.out, ← H7.out]; rintro e v6 ⟨A6, c6, x6, rfl, hO, hB⟩)
        have o6 := OBox.new (k := r) hO hle5
        have hN := bel_alloc (o := .cells #[.slice A6 r.ents.length c6, .int .i64 r.eps] 25) hB
        generalize (v6.alloc (.cells #[.slice A6 r.ents.length c6, .int .i64 r.eps] 25)) = W6 at o6 hN ⊢
        generalize v6.heap.size = b6 at o6 ⊢
        have O6 := Lib.hid o6
        have O1 := Lib.hid (O1.out.after hN)
        have O2 := Lib.hid (O2.out.after hN)
        have O3 := Lib.hid (O3.out.after hN)
        have O4 := Lib.hid (O4.out.after hN)
        have O5 := Lib.hid (O5.out.after hN)
        have R3 := Lib.hid (rd_after R3.out hN)
        have R4 := Lib.hid (rd_after R4.out hN)
        have DD6 := Lib.hid (DD5.out.after hN)
        have HW6 := Lib.hid (keepB hN HW5.out)
        have hle6 : w.heap.size ≤ W6.heap.size := HW6.out.size
        clear hO hB hN o6 q0 q1 DD5 HW5 hle5
        obtain ⟨q0, q1⟩ := DD6.out.cells
        have SIX := Lib.hid (fun w' => six_cells (w' := w') O1.out O2.out O3.out O4.out O5.out O6.out)
        obtain ⟨⟨ya1, yb1⟩, ⟨ya2, yb2⟩, ⟨ya3, yb3⟩, ⟨ya4, yb4⟩, ⟨ya5, yb5⟩, ⟨ya6, yb6⟩⟩ := SIX.out _ (Below.refl _ _)
        have e1 : (pe == pe) = true := by simp
        have e2 : (qe == qe) = true := by simp
        have e3 : (re == re) = true := by simp
        go_wp2_with (first
          | (have _t := G3; go_at_call 26; refine (numbers_pl P3 P4 d3 d4 ps _ (rd_after R3.out G3.out) (rd_after R4.out G3.out) HPL.out).mono ?_; rintro e s4 ⟨rfl, hB⟩; have G4 := Lib.hid (keepB hB G3.out); clear hB ya1 yb1 ya2 yb2 ya3 yb3 ya4 yb4 ya5 yb5 ya6 yb6)
          | (have _t := G2; go_at_call 25; refine (bsame_eq A5 A6 c5 c6 r _ (O5.out.after G2.out).box.ents (O6.out.after G2.out).box.ents O5.out.box.cap O5.out.box.cm O6.out.box.cap O6.out.box.cm).mono ?_; rintro e s3 ⟨rfl, hB⟩; have G3 := Lib.hid (keepB hB G2.out); clear hB ya1 yb1 ya2 yb2 ya3 yb3 ya4 yb4 ya5 yb5 ya6 yb6; obtain ⟨⟨ya1, yb1⟩, ⟨ya2, yb2⟩, ⟨ya3, yb3⟩, ⟨ya4, yb4⟩, ⟨ya5, yb5⟩, ⟨ya6, yb6⟩⟩ := SIX.out _ G3.out)
          | (have _t := G1; go_at_call 25; refine (bsame_eq A3 A4 c3 c4 q _ (O3.out.after G1.out).box.ents (O4.out.after G1.out).box.ents O3.out.box.cap O3.out.box.cm O4.out.box.cap O4.out.box.cm).mono ?_; rintro e s2 ⟨rfl, hB⟩; have G2 := Lib.hid (keepB hB G1.out); clear hB ya1 yb1 ya2 yb2 ya3 yb3 ya4 yb4 ya5 yb5 ya6 yb6; obtain ⟨⟨ya1, yb1⟩, ⟨ya2, yb2⟩, ⟨ya3, yb3⟩, ⟨ya4, yb4⟩, ⟨ya5, yb5⟩, ⟨ya6, yb6⟩⟩ := SIX.out _ G2.out)
          | (go_at_call 25; refine (bsame_eq A1 A2 c1 c2 p _ (O1.out.after (Below.refl _ _)).box.ents (O2.out.after (Below.refl _ _)).box.ents O1.out.box.cap O1.out.box.cm O2.out.box.cap O2.out.box.cm).mono ?_; rintro e s1 ⟨rfl, hB⟩; have G1 := Lib.hid (hB); clear hB ya1 yb1 ya2 yb2 ya3 yb3 ya4 yb4 ya5 yb5 ya6 yb6; obtain ⟨⟨ya1, yb1⟩, ⟨ya2, yb2⟩, ⟨ya3, yb3⟩, ⟨ya4, yb4⟩, ⟨ya5, yb5⟩, ⟨ya6, yb6⟩⟩ := SIX.out _ G1.out))
        go_ret
        exact ⟨rfl, keepB G4.out HW6.out⟩
      · have hvb : decide ((300 : Int) < (val.length : Int)) = true := decide_eq_true (by omega)
        have hvb2 : decide (300 < val.length) = true := decide_eq_true (by omega)
        clear hl hv
        go_enter Try.func5, Try.ntmps5
        go_wp2_with (first
          | (go_at_call 9; refine (awake_any _).mono ?_; rintro e w1 ⟨rfl, hB1⟩; have D1 := Lib.hid (D0.out.after hB1); have HB1 := Lib.hid (keepB hB1 (below_one w _)); clear q0 q1 hB1; obtain ⟨q0, q1⟩ := D1.out.cells)
          | (go_at_call 10; refine (fewE_any A c k _ D1.out.ents D1.out.cap D1.out.cm).mono ?_; rw [HF.out]; rintro e w2 ⟨rfl, hB2⟩; have HB2 := Lib.hid (keepB hB2 HB1.out); have D2 := Lib.hid (D1.out.after hB2); clear hB2 q0 q1))
        go_ret
        exact ⟨rfl, HB2.out⟩
    · have hlb : decide ((300 : Int) < (lab.length : Int)) = true := decide_eq_true (by omega)
      have hlb2 : decide (300 < lab.length) = true := decide_eq_true (by omega)
      clear hl
      go_enter Try.func5, Try.ntmps5
      go_wp2_with (first
        | (go_at_call 9; refine (awake_any _).mono ?_; rintro e w1 ⟨rfl, hB1⟩; have D1 := Lib.hid (D0.out.after hB1); have HB1 := Lib.hid (keepB hB1 (below_one w _)); clear q0 q1 hB1; obtain ⟨q0, q1⟩ := D1.out.cells)
        | (go_at_call 10; refine (fewE_any A c k _ D1.out.ents D1.out.cap D1.out.cm).mono ?_; rw [HF.out]; rintro e w2 ⟨rfl, hB2⟩; have HB2 := Lib.hid (keepB hB2 HB1.out); have D2 := Lib.hid (D1.out.after hB2); clear hB2 q0 q1))
      go_ret
      exact ⟨rfl, HB2.out⟩
theorem does_bs (A : Option Addr) (c : Nat) (k : Bk) (Al : Option Addr) (nl cl : Nat) (lab : List UInt8) (Av : Option Addr) (nv cv : Nat) (val : List UInt8) (ver : Int) (w : World) (hA : Ents w w.heap.size A k.ents.length k.ents) (h1 : k.ents.length ≤ c) (h2 : c ≤ maxLen) (hL : Bs w w.heap.size (.slice Al nl cl) lab) (hV : Bs w w.heap.size (.slice Av nv cv) val) :
    Calls Try.prog 5 #[bkv A k.ents.length c k.eps, .slice Al nl cl, .slice Av nv cv, .int .i64 ver] w fun e w' => e = .returned (.bool true) ∧ Below w.heap.size w w' := by
  obtain ⟨A', c', e, _, _, hr⟩ := hL
  simp only [Value.slice.injEq] at e
  obtain ⟨rfl, rfl, rfl⟩ := e
  obtain ⟨A', c', e, _, _, hr'⟩ := hV
  simp only [Value.slice.injEq] at e
  obtain ⟨rfl, rfl, rfl⟩ := e
  exact does_walk A c k _ _ lab _ _ val ver w hA h1 h2 hr hr'
end Go.Proofs.Ytkiijbbcfbkecaa
