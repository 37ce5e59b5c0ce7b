/- EpochApart, walked. -/
import Derived.Test.YtkiijbbcfbkecaaM5
import Derived.Test.YtkiijbbcfbkecaaP6
import Derived.Test.YtkiijbbcfbkecaaH1
import Derived.Deep.QuietTactic
import Derived.BigQuiet
import Derived.Deep.CutBlock
import Derived.Deep.DeepCutAuto
import Derived.IntWalk
namespace Go.Proofs.Ytkiijbbcfbkecaa
open Go.RowKit
set_option linter.unusedVariables false

theorem keepAp {W w' : World} {b base : Nat} {A : Option Addr} {c : Nat} {xs : List Value} {k : Bk} {p : Addr} {v : Value} (hd : OBox W b base A c xs k) (hp : p.block < W.heap.size) (hc : W.cell? p = some v) (h : Below W.heap.size W w') : w'.cell? ⟨b, 0, none⟩ = some (.slice A k.ents.length c) ∧ w'.cell? ⟨b, 1, none⟩ = some (.int .i64 k.eps) ∧ w'.cell? p = some v ∧ Below W.heap.size W w' :=
  ⟨(hd.after h).blk.cell 0, (hd.after h).blk.cell 1, (h.cell hp).trans hc, h⟩

set_option maxRecDepth 100000 in
set_option maxHeartbeats 8000000 in
theorem apart_walk (Al : Option Addr) (cl : Nat) (l : List UInt8) (b : UInt8) (w : World) (hl : Rd w w.heap.size Al l.length (bvs l)) (hc1 : l.length ≤ cl) (hc2 : cl ≤ maxLen) :
    Calls Try.prog 8 #[.slice Al l.length cl, .int .u8 (b.toNat : Int)] w fun e w' => e = .returned (.bool true) ∧ Below w.heap.size w w' := by
  have HL := Lib.hid hl
  unfold maxLen at hc2
  clear hl
  obtain ⟨nl, hnl⟩ : ∃ nl, nl = l.length := ⟨_, rfl⟩
  rw [← hnl] at hc1 ⊢
  have HNL := Lib.hid hnl
  clear hnl
  go_enter Try.func8, Try.ntmps8
  go_upto_block 0 with (go_at_call 9; refine (awake_any _).mono ?_; rintro e w1 ⟨rfl, hB1⟩)
  have hd : OBox ((w1.alloc (.cells zbk 25)).alloc (.cells zbk 25)) w1.heap.size w.heap.size none 0 [] aB0 := (OBox.nil w1 w.heap.size).alloc _
  have he : OBox ((w1.alloc (.cells zbk 25)).alloc (.cells zbk 25)) (w1.heap.size + 1) w.heap.size none 0 [] aB0 := by
    have := OBox.nil (w1.alloc (.cells zbk 25)) w.heap.size
    rw [World.size_alloc w1] at this
    exact this
  have hB : Below w.heap.size w ((w1.alloc (.cells zbk 25)).alloc (.cells zbk 25)) := bel_alloc (bel_alloc hB1)
  have hbb := hB1.size
  clear hB1
  generalize ((w1.alloc (.cells zbk 25)).alloc (.cells zbk 25)) = W at hd he hB ⊢
  generalize w1.heap.size = bb at hd he hbb ⊢
  have D := Lib.hid hd
  have E := Lib.hid he
  have HB := Lib.hid hB
  clear hd he hB
  go_cut [8] (fun s8 wx => ∃ (j n : Nat) (A : Option Addr) (c : Nat) (xs : List Value) (A' : Option Addr) (c' : Nat) (xs' : List Value) (kb kc : Bk), s8 = .int .i64 n ∧ j ≤ 8 ∧ OBox wx bb w.heap.size A c xs kb ∧ OBox wx (bb + 1) w.heap.size A' c' xs' kc ∧ ApInv kb kc [b] j n ∧ Below w.heap.size w wx)
  case first =>
    go_wp2_with fail
    go_loopw [8, 9] (fun s8 s9 wr => ∃ (j n : Nat) (A : Option Addr) (c : Nat) (xs : List Value) (A' : Option Addr) (c' : Nat) (xs' : List Value) (kb kc : Bk), s8 = .int .i64 n ∧ s9 = .int .i64 j ∧ j ≤ 8 ∧ j ≤ nl ∧ OBox wr bb w.heap.size A c xs kb ∧ OBox wr (bb + 1) w.heap.size A' c' xs' kc ∧ ApInv kb kc [b] j n ∧ Below w.heap.size w wr) (fun _ i _ => 8 - (intOf i).toNat)
    case atStart => exact ⟨0, 0, none, 0, [], none, 0, [], aB0, aB0, rfl, rfl, Nat.zero_le _, Nat.zero_le _, D.out, E.out, apInv_nil _, HB.out⟩
    case round =>
      obtain ⟨j, n, A, c, xs, A', c', xs', kb, kc, rfl, rfl, hj8, hjn, hd, he, hg, hB⟩ := hrel
      have hnj := ap_len hg
      by_cases hlt : j < nl
      · by_cases h8 : j < 8
        · have hk0 : (0 : Int) ≤ (j : Int) := by omega
          have hk1 : (j : Int) < (nl : Int) := by omega
          have hk8 : decide ((j : Int) < 8) = true := decide_eq_true (by omega)
          have hjl : j < l.length := by rw [← HNL.out]; exact hlt
          obtain ⟨ad, u, rfl, hub, hu, hcu⟩ := HL.out.at_ hjl
          rw [bvs_get hjl] at hu
          injection hu with hu
          subst hu
          obtain ⟨x, hx⟩ : ∃ x, x = l[j] := ⟨_, rfl⟩
          rw [← hx] at hcu
          have HCU := Lib.hid hcu
          have hcw := (hB.cell (p := ad.add j) (by rw [block_of_add]; exact hub)).trans hcu
          have hadl : (ad.add j).block < wr.heap.size := by rw [block_of_add]; have := hB.size; omega
          obtain ⟨jb, hjb⟩ : ∃ jb : UInt8, jb.toNat = j := ⟨UInt8.ofNat j, by rw [UInt8.toNat_ofNat']; omega⟩
          have hC1 : (#[.int .u8 (x.toNat : Int)] : Array Value).toList = bvs [x] := rfl
          have hC2 : (#[.int .u8 (x.toNat : Int), .int .u8 (j : Int)] : Array Value).toList = bvs [x, jb] := by simp [bvs, bv, hjb]
          have hCb : (#[.int .u8 (b.toNat : Int)] : Array Value).toList = bvs [b] := rfl
          have hCb2 : (#[.int .u8 (b.toNat : Int), .int .u8 (j : Int)] : Array Value).toList = bvs [b, jb] := by simp [bvs, bv, hjb]
          have hw8 : IntKind.u8.wrap (j : Int) = (j : Int) := IntWalk.u8_in _ (by omega)
          have HC1 := Lib.hid hC1
          have HC2 := Lib.hid hC2
          have HCB := Lib.hid hCb
          have HCB2 := Lib.hid hCb2
          have hp : pubE kb [x] [x, jb] = 0 := (goBk_pub hg.b h8 [x] [x, jb] (by simp) (by simp)).1
          obtain ⟨nk, hnk⟩ : ∃ nk, nk = pubK kb [x] [x, jb] := ⟨_, rfl⟩
          have HNK := Lib.hid hnk.symm
          have HPE := Lib.hid hp
          have HG := Lib.hid hg
          have D1 := Lib.hid hd
          have E1 := Lib.hid he
          have HB1 := Lib.hid hB
          have hK := Lib.hid (fun w' => keepAp (w' := w') D1.out hadl hcw)
          have hK2 := Lib.hid (fun (w' : World) (h : Below wr.heap.size wr w') => (h.cell hadl).trans hcw)
          clear hd he hg hB hnk hp hcu hx hC1 hC2 hCb hCb2 hjb hcw
          have hcw0 := hK2.out _ (Below.refl _ _)
          go_wp2
          clear hcw0
          go_cut [10, 11] (fun s10 s11 wx => ∃ (g : Nat) (A2 : Option Addr) (c2 : Nat) (xs2 : List Value), s10 = .pointer (some ⟨g, 0, none⟩) ∧ s11 = .int .i64 0 ∧ Blk wx g 25 #[.slice A2 nk.ents.length c2, .int .i64 nk.eps] ∧ OwnE wx wr.heap.size (.slice A2 nk.ents.length c2) xs2 nk.ents ∧ Below wr.heap.size wr wx)
          case first =>
            go_region_held3 (fun w' => w'.cell? ⟨bb, 0, none⟩ = some (.slice A kb.ents.length c) ∧ w'.cell? ⟨bb, 1, none⟩ = some (.int .i64 kb.eps) ∧ w'.cell? (ad.add j) = some (.int .u8 (x.toNat : Int)) ∧ Below wr.heap.size wr w')
              ((refine hK.out _ ?_; first | simp only [Below.refl, bel_drew, bel_alloc, *] | with_reducible exact bel_drew (bel_alloc (bel_alloc (Below.refl _ _))) | with_reducible exact bel_drew (bel_alloc (bel_alloc (bel_alloc (Below.refl _ _)))) | exact bel_set (bel_set hW5 (by omega)) (by omega)))
              (first
                | (go_at_call 19; go_split_ands; refine (pub_m (lab := [x]) (val := [x, jb]) rfl rfl HNK.out HPE.out (ents_after D1.out.own.ents (by with_reducible assumption)) D1.out.box.cap D1.out.box.cm (sm_check HG.out.b.ck) (by first | with_reducible exact rd2a HC1.out | with_reducible exact rd2b HC1.out | with_reducible exact rd3a HC1.out | with_reducible exact rd3b HC1.out | with_reducible exact rd3c HC1.out) (by first | with_reducible exact rd2a HC2.out | with_reducible exact rd2b HC2.out | with_reducible exact rd3a HC2.out | with_reducible exact rd3b HC2.out | with_reducible exact rd3c HC2.out) (by simp) (by simp)).mono ?_; rintro e w5 ⟨A5, c5, xs5, rfl, hO5, hB5⟩; have hO5 := hO5.less (Below.size (B := wr.heap.size) (w := wr) (by with_reducible assumption)); have hW5 := keepB hB5 (W := wr) (by with_reducible assumption); have s5 := hW5.size; have s4 : wr.heap.size ≤ wr.heap.size := Nat.le_refl _; (first | (have z5 : Blk w5 wr.heap.size 25 zbk := (by with_reducible exact blk3a hB5)) | (have z5 : Blk w5 (wr.heap.size + 1) 25 zbk := (by with_reducible exact blk3b hB5)) | (have z5 : Blk w5 (wr.heap.size + 1 + 1) 25 zbk := (by with_reducible exact blk3c hB5)) | skip); try (have cz := z5.cell; have fz := z5.frozen)))
            all_goals (go_wp2_with fail; go_meet)
            all_goals first
              | exact ⟨_, _, _, _, rfl, rfl, Blk.new w5 _ _, hO5.alloc _, bel_alloc hW5⟩
              | exact ⟨_, _, _, _, rfl, rfl, set2_blk z5 _ _, hO5.grownB (set2_grown _ _ _ _) z5 (by decide) (by decide), bel_set (bel_set hW5 (by omega)) (by omega)⟩
          case rest =>
            obtain ⟨g, A2, c2, xs2, rfl, rfl, hbg, hO2, hB2⟩ := hcut
            have cg := hbg.cell
            have d2 := D1.out.after hB2
            have e2 := E1.out.after hB2
            have hwr : w.heap.size ≤ wr.heap.size := HB1.out.size
            have hdW := OBox.store (base := w.heap.size) d2.blk hO2 hwr
            have heW := e2.far d2.blk (by omega) (.slice A2 nk.ents.length c2) (.int .i64 nk.eps)
            have hBW : Below w.heap.size w ((wc.setCell ⟨bb, 0, none⟩ (.slice A2 nk.ents.length c2)).setCell ⟨bb, 1, none⟩ (.int .i64 nk.eps)) := bel_set (bel_set (keepB hB2 HB1.out) hbb) hbb
            have hcW := (hBW.cell (p := ad.add j) (by rw [block_of_add]; exact hub)).trans HCU.out
            have cbb := d2.blk.cell
            have fbb := d2.blk.frozen
            have DW := Lib.hid hdW
            have EW := Lib.hid heW
            have BW := Lib.hid hBW
            clear hbg hO2 hB2 d2 e2 hdW heW hBW
            go_upto_region 12 with (fail)
            generalize ((wc.setCell ⟨bb, 0, none⟩ (.slice A2 nk.ents.length c2)).setCell ⟨bb, 1, none⟩ (.int .i64 nk.eps)) = W2 at DW EW BW hcW ⊢
            clear cg cbb fbb
            cases hxb : ((x.toNat : Int) == (b.toNat : Int))
            · have hne : [x] ≠ [b] := by
                intro e
                injection e with e
                rw [e] at hxb
                simp at hxb
              have HNE := Lib.hid hne
              clear hne
              go_wp2
              go_roundw
              case rel =>
                have := ap_other (lab' := [x]) (val := [x, jb]) HG.out h8 (by simp) (by simp) HNE.out
                exact ⟨j + 1, n, A2, c2, xs2, A', c', xs', nk, kc, rfl, by go_num, by omega, by omega, DW.out, EW.out, by rw [← HNK.out]; exact this.2, BW.out⟩
              case measure => simp [intOf]; omega
            · have hxe : x = b := by
                have : x.toNat = b.toNat := by have := eq_of_beq hxb; omega
                exact UInt8.toNat_inj.1 this
              have hap := ap_this (val := [b, jb]) HG.out h8 (by simp) (by simp)
              obtain ⟨_, hpc, hgn⟩ := hap
              have hnk2 : nk = pubK kb [b] [b, jb] := by rw [← HNK.out, hxe]
              rw [← hnk2] at hgn
              obtain ⟨nc, hnc⟩ : ∃ nc, nc = pubK kc [b] [b, jb] := ⟨_, rfl⟩
              rw [← hnc] at hgn
              have HNC := Lib.hid hnc.symm
              have HPC := Lib.hid hpc
              have HGN := Lib.hid hgn
              have hcc := EW.out.blk.cell
              have hn0 : (0 : Int) ≤ (n : Int) := by omega
              have hn1 : (n : Int) ≤ 8 := by omega
              clear hxe hpc hgn hnc hnk2
              go_wp2_with (go_at_call 19; refine (pub_m (lab := [b]) (val := [b, jb]) rfl rfl HNC.out HPC.out ((EW.out.alloc _).alloc _).own.ents EW.out.box.cap EW.out.box.cm (sm_check HG.out.c.ck) (rdn2a HCB.out) (rdn2b HCB2.out) (by simp) (by simp)).mono ?_; rintro e w6 ⟨A6, c6, xs6, rfl, hO6, hB6⟩; have hS6 := keepB hB6 (bel_alloc (below_one W2 _)); have b6 := fun o => ((EW.out.after hS6).alloc o).blk.cell; have f6 := fun o => ((EW.out.after hS6).alloc o).blk.frozen)
              have hsz6 : w.heap.size ≤ w6.heap.size := by have := BW.out.size; have := hS6.size; omega
              have hd6 := (DW.out.after hS6).alloc (.cells #[.slice A6 nc.ents.length c6, .int .i64 nc.eps] 25)
              have he6 := (EW.out.after hS6).alloc (.cells #[.slice A6 nc.ents.length c6, .int .i64 nc.eps] 25)
              have hB6' : Below w.heap.size w (w6.alloc (.cells #[.slice A6 nc.ents.length c6, .int .i64 nc.eps] 25)) := bel_alloc (keepB hS6 BW.out)
              have hO6' := (hO6.less (Nat.le_refl _)).alloc (.cells #[.slice A6 nc.ents.length c6, .int .i64 nc.eps] 25)
              go_roundw
              case rel => exact ⟨j + 1, n + 1, A2, c2, xs2, A6, c6, xs6, nk, nc, by go_num, by go_num, by omega, by omega, hd6.far he6.blk (by omega) _ _, OBox.store he6.blk hO6' (by have := BW.out.size; simp; omega), HGN.out, bel_set (bel_set hB6' (by omega)) (by omega)⟩
              case measure => simp [intOf]; omega
        · have hk8 : decide ((j : Int) < 8) = false := decide_eq_false (by omega)
          go_wp2
          go_meet
          exact ⟨j, n, A, c, xs, A', c', xs', kb, kc, rfl, hj8, hd, he, hg, hB⟩
      · have hjn' : decide ((j : Int) < (nl : Int)) = false := decide_eq_false (by omega)
        go_wp2
        go_meet
        exact ⟨j, n, A, c, xs, A', c', xs', kb, kc, rfl, hj8, hd, he, hg, hB⟩
  case rest =>
    obtain ⟨j, n, A, c, xs, A', c', xs', kb, kc, rfl, hj8, hd, he, hg, hB⟩ := hcut
    have hnj := ap_len hg
    have HG := Lib.hid hg
    have D3 := Lib.hid hd
    have E3 := Lib.hid he
    have HB3 := Lib.hid hB
    have HCB : Hid ((#[.int .u8 (b.toNat : Int)] : Array Value).toList = bvs [b]) := Lib.hid rfl
    obtain ⟨W3, hW3⟩ : ∃ W3, W3 = wc := ⟨_, rfl⟩
    rw [← hW3] at D3 E3 HB3 ⊢
    clear hg hd he hB hW3 D E HB
    go_upto_block 2 with (fail)
    go_cut [] (fun wx => Below W3.heap.size W3 wx)
    case first =>
      go_wp2_with fail
      go_loopw [14] (fun s14 wr => ∃ v : Nat, 1 ≤ v ∧ v ≤ n + 1 ∧ s14 = .int .i64 v ∧ Below W3.heap.size W3 wr) (fun s14 _ => n + 1 - (intOf s14).toNat)
      case atStart => exact ⟨1, by omega, by omega, rfl, Below.refl _ _⟩
      case round =>
        obtain ⟨v, hv1, hv2, rfl, hB⟩ := hrel
        have HBr := Lib.hid hB
        clear hB
        by_cases hvn : v ≤ n
        · obtain ⟨i, k, x, g1, g2, x1, x2, hi, hk⟩ := ap_get HG.out hv1 hvn
          have e1 : getI kb [b] (v : Int) = (i : Int) := by rw [getI_eq, g1]; rfl
          have e2 : getOk kb [b] (v : Int) = true := by rw [getOk_eq, g1]; rfl
          have e3 : getI kc [b] (v : Int) = (k : Int) := by rw [getI_eq, g2]; rfl
          have e4 : getOk kc [b] (v : Int) = true := by rw [getOk_eq, g2]; rfl
          have hbl : i < kb.ents.length := by rw [HG.out.b.len]; exact hi
          have hcl : k < kc.ents.length := by rw [HG.out.c.len]; exact hk
          obtain ⟨G1, p1, y1, l1, m1, v1, n1, E1, b1, hy1, a1, a2, a3, a4, a5, o1, o2, o3, o4, o5, o6⟩ := D3.out.own.ents.at_ hbl
          rw [x1] at hy1
          injection hy1 with hy1
          subst hy1
          obtain ⟨G2, p2, y2, l2, m2, v2, n2, E2, b2, hy2, z1, z2, z3, z4, z5, r1, r2, r3, r4, r5, r6⟩ := E3.out.own.ents.at_ hcl
          rw [x2] at hy2
          injection hy2 with hy2
          subst hy2
          obtain ⟨SV, hSV⟩ : ∃ S : ByteArray, S = ⟨x.value.toArray⟩ := ⟨_, rfl⟩
          subst E1 E2
          have E1' := Lib.hid e1
          have E2' := Lib.hid e2
          have E3' := Lib.hid e3
          have E4' := Lib.hid e4
          have HV1 := Lib.hid (fun (w' : World) (h : Below W3.heap.size W3 w') (nq : Nat) => conv_rd ((o6.below h).drewN nq) n1)
          have HV2 := Lib.hid (fun (w' : World) (h : Below W3.heap.size W3 w') (nq : Nat) => conv_rd ((r6.below h).drewN nq) n2)
          have HA2 := Lib.hid (fun (w' : World) (h : Below W3.heap.size W3 w') => (h.cell (p := ⟨G1, p1 + i * 5 + 1, none⟩) b1).trans a2)
          have HZ2 := Lib.hid (fun (w' : World) (h : Below W3.heap.size W3 w') => (h.cell (p := ⟨G2, p2 + k * 5 + 1, none⟩) b2).trans z2)
          have HSV := Lib.hid hSV
          have t1 : decide ((i : Int) < 0) = false := decide_eq_false (by omega)
          have t2 : decide (kb.ents.length ≤ i) = false := decide_eq_false (by omega)
          have t2' : decide ((kb.ents.length : Int) ≤ (i : Int)) = false := decide_eq_false (by omega)
          have t3 : decide ((k : Int) < 0) = false := decide_eq_false (by omega)
          have t4 : decide (kc.ents.length ≤ k) = false := decide_eq_false (by omega)
          have t4' : decide ((kc.ents.length : Int) ≤ (k : Int)) = false := decide_eq_false (by omega)
          have hi0 : (0 : Int) ≤ (i : Int) := by omega
          have hi1 : (i : Int) < (kb.ents.length : Int) := by omega
          have hk0 : (0 : Int) ≤ (k : Int) := by omega
          have hk1 : (k : Int) < (kc.ents.length : Int) := by omega
          have hsv : (SV.toList != SV.toList) = false := by simp
          have dr := D3.out.after HBr.out
          have q0 := dr.blk.cell
          clear e1 e2 e3 e4 x1 x2 g1 g2 a1 a2 a3 a4 a5 z1 z2 z3 z4 z5 o1 o2 o3 o4 o5 o6 r1 r2 r3 r4 r5 r6 hSV dr
          go_wp2_with (first
            | (have _t := HA; go_at_call 13; refine (get_r (lab := [b]) E3'.out E4'.out ((E3.out.after HA.out).alloc _).own.ents E3.out.box.cap E3.out.box.cm (rdC HCB.out _)).mono ?_; rintro e wb ⟨rfl, hBb⟩; have HBb := Lib.hid (keepB (keepB hBb (below_one _ _)) HA.out); have qd := (D3.out.after HBb.out).blk.cell; have qe := (E3.out.after HBb.out).blk.cell; have qa := HA2.out _ HBb.out; have qz := HZ2.out _ HBb.out; have v1 := HV1.out _ HBb.out; have v2 := HV2.out _ HBb.out; rw [← HSV.out] at v1 v2; clear q1)
            | (go_at_call 13; refine (get_r (lab := [b]) E1'.out E2'.out ((D3.out.after HBr.out).alloc _).own.ents D3.out.box.cap D3.out.box.cm (rdC HCB.out _)).mono ?_; rintro e wa ⟨rfl, hBa⟩; have HA := Lib.hid (keepB (keepB hBa (below_one _ _)) HBr.out); clear q0; have q1 := (E3.out.after HA.out).blk.cell))
          go_quiet (fail)
          go_wp2
          go_roundw
          case rel => exact ⟨v + 1, by omega, by omega, by go_num, below_drewN HBb.out _⟩
          case measure => simp [intOf]; omega
        · have hvb : decide ((v : Int) ≤ (n : Int)) = false := decide_eq_false (by omega)
          have hvb2 : decide (v ≤ n) = false := decide_eq_false (by omega)
          go_wp2
          go_meet
          exact HBr.out
    case rest =>
      have HB4 := Lib.hid (keepB hcut HB3.out)
      have dr := D3.out.after hcut
      have q0 := dr.blk.cell
      have DR := Lib.hid dr
      have hla : latA kb [b] = (n : Int) := by rw [latA_ok HG.out.b.ck, ap_cntB HG.out]
      have HLA := Lib.hid hla
      have hnn : ((n : Int) == (n : Int)) = true := by simp
      clear dr hla hcut
      go_wp2_with (go_at_call 11; refine (lat_r (lab := [b]) rfl HLA.out (DR.out.alloc _).own.ents DR.out.box.cap DR.out.box.cm (rdC HCB.out _)).mono ?_; rintro e wl ⟨rfl, hBl⟩)
      go_ret
      exact ⟨rfl, keepB (keepB hBl (below_one _ _)) HB4.out⟩
theorem apart_bs (Al : Option Addr) (nl cl : Nat) (l : List UInt8) (b : UInt8) (w : World) (hl : Bs w w.heap.size (.slice Al nl cl) l) :
    Calls Try.prog 8 #[.slice Al nl cl, .int .u8 (b.toNat : Int)] w fun e w' => e = .returned (.bool true) ∧ Below w.heap.size w w' := by
  obtain ⟨A', c', e, h1, h2, hr⟩ := hl
  simp only [Value.slice.injEq] at e
  obtain ⟨rfl, rfl, rfl⟩ := e
  exact apart_walk _ _ l b w hr h1 h2
end Go.Proofs.Ytkiijbbcfbkecaa
