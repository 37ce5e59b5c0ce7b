/- EpochGoes, walked. -/
import Derived.Test.YtkiijbbcfbkecaaK1
import Derived.Test.YtkiijbbcfbkecaaP5
import Derived.Deep.RegionHeld3
import Derived.Deep.DeepCutAuto
import Derived.Deep.CutBlock
import Derived.Outline
namespace Go.Proofs.Ytkiijbbcfbkecaa
open Go.RowKit
set_option linter.unusedVariables false

theorem pub_m {A : Option Addr} {c : Nat} {k k' : Bk} {Al : Option Addr} {cl m m' : Nat} {lab : List UInt8} {Av : Option Addr} {cv : Nat} {val : List UInt8} {ef : Int} {w : World} (hm : lab.length = m) (hm' : val.length = m') (hk : pubK k lab val = k') (he : pubE k lab val = ef) (hA : Ents w w.heap.size A k.ents.length k.ents) (h1 : k.ents.length ≤ c) (h2 : c ≤ maxLen) (hs : SmE k.ents) (hL : Rd w w.heap.size Al lab.length (bvs lab)) (hV : Rd w w.heap.size Av val.length (bvs val)) (h3 : lab.length ≤ 1000) (h4 : val.length ≤ 1000) :
    Calls Try.prog 19 #[bkv A k.ents.length c k.eps, .slice Al m cl, .slice Av m' cv] w (BkRet w k' (withErr ef)) := by
  subst hm hm'
  exact pub_r hk he hA h1 h2 hs hL hV h3 h4
theorem Rd.take_ {w : World} {B : Nat} {A : Option Addr} {l : List UInt8} (h : Rd w B A l.length (bvs l)) (m : Nat) : Rd w B A (l.take m).length (bvs (l.take m)) := by
  refine ⟨bvs_length, fun hn => ?_⟩
  obtain ⟨ad, e, hb, hc⟩ := h.2 (by rw [List.length_take] at hn; omega)
  refine ⟨ad, e, hb, fun j u hu => hc j u ?_⟩
  have hj : j < m := by have := (List.getElem?_eq_some_iff.1 hu).1; rw [bvs_length, List.length_take] at this; omega
  unfold bvs at hu ⊢
  rwa [List.map_take, List.getElem?_take_of_lt hj] at hu
theorem tick_m {A : Option Addr} {c m : Nat} {k k' : Bk} {ef : Int} {w : World} {ps : List Nat} (hm : ps.length = m) (hk : tickK k = k') (he : tickE k = ef) (hp : tickPl k = ps) (hA : Ents w w.heap.size A k.ents.length k.ents) (h1 : k.ents.length ≤ c) (h2 : c ≤ maxLen) (hs : SmE k.ents) :
    Calls Try.prog 21 #[bkv A k.ents.length c k.eps] w fun e w' => ∃ A c xs A' c', e = .returned (.tuple #[bkv A k'.ents.length c k'.eps, .slice A' m c', .int .i64 ef]) ∧ OwnE w' w.heap.size (.slice A k'.ents.length c) xs k'.ents ∧ Rd w' w'.heap.size A' m (pvs ps) ∧ Below w.heap.size w w' := by
  subst hm
  refine (tick_r hk he hp hA h1 h2 hs).mono ?_
  rintro e w' ⟨A1, c1, xs1, A2, c2, h1, h2, h3, h4⟩
  exact ⟨A1, c1, xs1, A2, c2, h1, h2, own_rd h3, h4⟩
theorem pvs_get {a m j : Nat} (h : j < m) : (pvs (List.range' a m))[j]? = some (.int .i64 ((a + j : Nat) : Int)) := by
  unfold pvs
  rw [List.getElem?_map, List.getElem?_range']
  · simp
  · exact h
/-- A book is stored in a box that lies since. -/
theorem BBox.store {w : World} {base b : Nat} {A : Option Addr} {c : Nat} {xs : List Value} {k : Bk} {x y : Value} (hb : Blk w b 25 #[x, y]) (h : OwnE w base (.slice A k.ents.length c) xs k.ents) : BBox ((w.setCell ⟨b, 0, none⟩ (.slice A k.ents.length c)).setCell ⟨b, 1, none⟩ (.int .i64 k.eps)) b A c k := by
  obtain ⟨A', c', e, h1, h2⟩ := h.form
  simp only [Value.slice.injEq] at e
  obtain ⟨_, _, rfl⟩ := e
  have hgr := (grown_setCell w ⟨b, 0, none⟩ (.slice A k.ents.length c)).trans (grown_setCell _ ⟨b, 1, none⟩ (.int .i64 k.eps))
  refine ⟨?_, (h.grownB hgr hb (by decide) (by decide)).ents, h1, h2⟩
  have := (hb.set_ 0 (.slice A k.ents.length c)).set_ 1 (.int .i64 k.eps)
  simpa using this
theorem set2_blk {w : World} {g : Nat} {t : TypeId} {x y : Value} (h : Blk w g t #[x, y]) (a b : Value) : Blk ((w.setCell ⟨g, 0, none⟩ a).setCell ⟨g, 1, none⟩ b) g t #[a, b] := by
  have := (h.set_ 0 a).set_ 1 b
  simpa using this
theorem set2_grown (w : World) (g : Nat) (a b : Value) : w.grownBy ((w.setCell ⟨g, 0, none⟩ a).setCell ⟨g, 1, none⟩ b) (some g) := (grown_setCell w ⟨g, 0, none⟩ a).trans (grown_setCell _ ⟨g, 1, none⟩ b)
/-- 's[:h]' of bytes, h at most the capacity. -/
theorem run_cut (a : Option Addr) (n c : Nat) (h : Int) (w : World) (h0 : 0 ≤ h) (h1 : h ≤ (c : Int)) : (Instr.slice 26 (.slice a n c) none (some (.int .i64 h)) none).run Try.prog w = .ok (.slice a h.toNat c) w := by
  have hsz : (sizeOf (Try.prog.elem 26)).run Try.prog w = .ok 1 w := by
    obtain ⟨i2, hi2, hz2, hs2, hb2⟩ := info_parts infoTB
    have he : Try.prog.elem 26 = 5 := by kernel_rfl
    simp [he, sizeOf, typeInfo, hi2, hs2]
  have hr := run_slice_h (P := Try.prog) w 26 a n c (by kernel_rfl) .i64 h h0 h1
  rw [hsz] at hr
  simp only [Result.andThen] at hr
  rw [hr]
  have e : sliced a 0 h.toNat c 1 = .slice a h.toNat c := by
    unfold sliced
    by_cases hc : c = 0
    · simp [hc]
    · rcases a with _ | ad
      · simp [hc]
      · simp [hc, Addr.add]
  rw [e]
attribute [local go_sem high] run_cut
theorem run_min_l {P : Program} (ts : Array TypeId) (t : TypeId) (k k' : IntKind) (x y : Int) (w : World) (h : ¬ y < x) : (Builtin.min_ ts t #[.int k x, .int k' y]).run P w = .ok (.int k x) w := by
  have := run_min_int2 (P := P) w ts t k k' x y
  rwa [if_neg h] at this
theorem run_min_r {P : Program} (ts : Array TypeId) (t : TypeId) (k k' : IntKind) (x y : Int) (w : World) (h : y < x) : (Builtin.min_ ts t #[.int k x, .int k' y]).run P w = .ok (.int k y) w := by
  have := run_min_int2 (P := P) w ts t k k' x y
  rwa [if_pos h] at this
attribute [local go_sem high] run_min_l run_min_r
theorem keepGo {W w' : World} {b : Nat} {A : Option Addr} {c : Nat} {k : Bk} {p : Addr} {v : Value} (hd : BBox W b A c k) (hp : p.block < W.heap.size) (hc : W.cell? p = some v) (h : Below W.heap.size W w') : w'.cell? ⟨b, 0, none⟩ = some (.slice A k.ents.length c) ∧ w'.cell? ⟨b, 1, none⟩ = some (.int .i64 k.eps) ∧ w'.cell? p = some v ∧ Below W.heap.size W w' :=
  ⟨(hd.after h).cells.1, (hd.after h).cells.2, (h.cell hp).trans hc, h⟩

set_option maxRecDepth 100000 in
set_option maxHeartbeats 8000000 in
theorem goes_walk (Al : Option Addr) (nl cl : Nat) (ss : List (List UInt8)) (n : UInt8) (w : World) (hss : Bss w w.heap.size Al nl ss) (hc1 : nl ≤ cl) (hc2 : cl ≤ maxLen) :
    Calls Try.prog 7 #[.slice Al nl cl, .int .u8 (n.toNat : Int)] w fun e w' => e = .returned (.bool true) ∧ Below w.heap.size w w' := by
  have HSS := Lib.hid hss
  have hn256 : n.toNat < 256 := UInt8.toNat_lt n
  generalize n.toNat = nn at hn256 ⊢
  unfold maxLen at hc2
  clear hss
  go_enter Try.func7, Try.ntmps7
  go_upto_block 0 with (go_at_call 9; refine (awake_any _).mono ?_; rintro e w1 ⟨rfl, hB1⟩)
  have hd : BBox (w1.alloc (.cells zbk 25)) w1.heap.size none 0 aB0 := BBox.arg (k := aB0) (ents0 _ _ _) (Nat.zero_le _) (Nat.zero_le _)
  have hB : Below w.heap.size w (w1.alloc (.cells zbk 25)) := bel_alloc hB1
  have hbb := hB1.size
  clear hB1
  generalize (w1.alloc (.cells zbk 25)) = W at hd hB ⊢
  generalize w1.heap.size = bb at hd hbb ⊢
  have D := Lib.hid hd
  have HB := Lib.hid hB
  clear hd hB
  go_cut [7] (fun s7 wx => ∃ (j : Nat) (A : Option Addr) (c : Nat) (bk : Bk), s7 = .int .i64 j ∧ j ≤ 8 ∧ BBox wx bb A c bk ∧ GoBk bk j 0 0 ∧ Below w.heap.size w wx)
  case first =>
    go_wp2_with fail
    go_loopw [7, 8] (fun k i wr => ∃ (j : Nat) (A : Option Addr) (c : Nat) (bk : Bk), k = .int .i64 j ∧ i = .int .i64 j ∧ j ≤ 8 ∧ j ≤ nl ∧ BBox wr bb A c bk ∧ GoBk bk j 0 0 ∧ Below w.heap.size w wr) (fun _ i _ => 8 - (intOf i).toNat)
    case atStart => exact ⟨0, none, 0, aB0, rfl, rfl, Nat.zero_le _, Nat.zero_le _, D.out, goBk_nil, HB.out⟩
    case round =>
      obtain ⟨j, A, c, bk, rfl, rfl, hj8, hjn, hd, hg, hB⟩ := hrel
      by_cases hlt : j < nl
      · by_cases h8 : j < 8
        · have hk0 : (0 : Int) ≤ (j : Int) := by omega
          have hk1 : (j : Int) < (nl : Int) := by omega
          have hk8 : decide ((j : Int) < 8) = true := decide_eq_true (by omega)
          obtain ⟨ad, Ai, ci, l, rfl, hb, hl, hc, p1, p2, p3⟩ := HSS.out.at_ hlt
          unfold maxLen at p2
          have hcw := (hB.cell (p := ad.add j) (by rw [block_of_add]; exact hb)).trans hc
          have hadl : (ad.add j).block < wr.heap.size := by rw [block_of_add]; have := hB.size; omega
          have hR := (p3.below hB).more hB.size
          have hp := goBk_pub hg h8 (l.take 32) [] (by rw [List.length_take]; omega) (by simp)
          obtain ⟨hpe, hgn⟩ := hp
          obtain ⟨nk, hnk⟩ : ∃ nk, nk = pubK bk (l.take 32) [] := ⟨_, rfl⟩
          rw [← hnk] at hgn
          have HNK := Lib.hid hnk.symm
          have HPE := Lib.hid hpe
          have HGN := Lib.hid hgn
          have HG := Lib.hid hg
          have D1 := Lib.hid hd
          have HB1 := Lib.hid hB
          have HR := Lib.hid (hR.take_ 32)
          have hK := Lib.hid (fun w' => keepGo (w' := w') D1.out hadl hcw)
          clear hd hg hB hR hpe hgn hnk hc p3 hl
          by_cases h32 : l.length ≤ 32
          · have hm : (l.take 32).length = l.length := by rw [List.length_take]; omega
            have h32b : decide ((32 : Int) < (l.length : Int)) = false := decide_eq_false (by omega)
            have h32c : ¬ (32 : Int) < (l.length : Int) := by omega
            have h32n : ¬ 32 < l.length := by omega
            have hci1 : (l.length : Int) ≤ (ci : Int) := by omega
            have hci0 : (0 : Int) ≤ (l.length : Int) := by omega
            have HM := Lib.hid hm
            clear hm
            go_wp2
            go_cut [9, 10] (fun s9 s10 wx => ∃ (g : Nat) (A2 : Option Addr) (c2 : Nat) (xs2 : List Value), s9 = .pointer (some ⟨g, 0, none⟩) ∧ s10 = .int .i64 0 ∧ Blk wx g 25 #[.slice A2 nk.ents.length c2, .int .i64 nk.eps] ∧ OwnE wx wr.heap.size (.slice A2 nk.ents.length c2) xs2 nk.ents ∧ Below wr.heap.size wr wx)
            case first =>
              go_region_held3 (fun w' => w'.cell? ⟨bb, 0, none⟩ = some (.slice A bk.ents.length c) ∧ w'.cell? ⟨bb, 1, none⟩ = some (.int .i64 bk.eps) ∧ w'.cell? (ad.add j) = some (.slice Ai l.length ci) ∧ Below wr.heap.size wr w')
                ((refine hK.out _ ?_; first | simp only [Below.refl, bel_drew, bel_alloc, *] | exact bel_set (bel_set hW5 (by omega)) (by omega)))
                (first
                  | (go_at_call 19; go_split_ands; refine (pub_m HM.out rfl HNK.out HPE.out (ents_after D1.out.ents (by with_reducible assumption)) D1.out.cap D1.out.cm (sm_check HG.out.ck) (rd_after (HR.out.more (Nat.le_refl _)) (by with_reducible assumption)) (Rd.none_ _) (by rw [HM.out]; omega) (Nat.zero_le _)).mono ?_; rintro e w5 ⟨A5, c5, xs5, rfl, hO5, hB5⟩; have hO5 := hO5.less (Below.size (B := wr.heap.size) (w := wr) (by with_reducible assumption)); have hW5 := keepB hB5 (W := wr) (by with_reducible assumption); have s5 := hW5.size; have s4 : wr.heap.size ≤ wr.heap.size := Nat.le_refl _; (first | (have z5 : Blk w5 wr.heap.size 25 zbk := (by with_reducible exact blk_new_d hB5)) | skip); try (have cz := z5.cell; have fz := z5.frozen)))
              all_goals (go_wp2_with fail; go_meet)
              all_goals first
                | exact ⟨_, _, _, _, rfl, rfl, Blk.new w5 _ _, hO5.alloc _, bel_alloc hW5⟩
                | exact ⟨_, _, _, _, rfl, rfl, set2_blk z5 _ _, hO5.grownB (set2_grown _ _ _ _) z5 (by decide) (by decide), bel_set (bel_set hW5 (by omega)) (by omega)⟩
            case rest =>
              obtain ⟨g, A2, c2, xs2, rfl, rfl, hbg, hO2, hB2⟩ := hcut
              have cg := hbg.cell
              have bbx := (D1.out.after hB2).blk
              have cbb := bbx.cell
              have fbb := bbx.frozen
              have HO2 := Lib.hid hO2
              have HB2 := Lib.hid hB2
              have BBX := Lib.hid bbx
              have HBW := Lib.hid (keepB hB2 HB1.out)
              clear hbg hO2 hB2 bbx
              go_wp2
              go_roundw
              case rel => exact ⟨j + 1, A2, c2, nk, by go_num, by go_num, by omega, by omega, BBox.store BBX.out HO2.out, HGN.out, bel_set (bel_set HBW.out hbb) hbb⟩
              case measure => simp [intOf]; omega
          · have hm : (l.take 32).length = 32 := by rw [List.length_take]; omega
            have h32b : decide ((32 : Int) < (l.length : Int)) = true := decide_eq_true (by omega)
            have h32c : (32 : Int) < (l.length : Int) := by omega
            have hci1 : (32 : Int) ≤ (ci : Int) := by omega
            have HM := Lib.hid hm
            clear hm
            go_wp2
            go_cut [9, 10] (fun s9 s10 wx => ∃ (g : Nat) (A2 : Option Addr) (c2 : Nat) (xs2 : List Value), s9 = .pointer (some ⟨g, 0, none⟩) ∧ s10 = .int .i64 0 ∧ Blk wx g 25 #[.slice A2 nk.ents.length c2, .int .i64 nk.eps] ∧ OwnE wx wr.heap.size (.slice A2 nk.ents.length c2) xs2 nk.ents ∧ Below wr.heap.size wr wx)
            case first =>
              go_region_held3 (fun w' => w'.cell? ⟨bb, 0, none⟩ = some (.slice A bk.ents.length c) ∧ w'.cell? ⟨bb, 1, none⟩ = some (.int .i64 bk.eps) ∧ w'.cell? (ad.add j) = some (.slice Ai l.length ci) ∧ Below wr.heap.size wr w')
                ((refine hK.out _ ?_; first | simp only [Below.refl, bel_drew, bel_alloc, *] | exact bel_set (bel_set hW5 (by omega)) (by omega)))
                (first
                  | (go_at_call 19; go_split_ands; refine (pub_m HM.out rfl HNK.out HPE.out (ents_after D1.out.ents (by with_reducible assumption)) D1.out.cap D1.out.cm (sm_check HG.out.ck) (rd_after (HR.out.more (Nat.le_refl _)) (by with_reducible assumption)) (Rd.none_ _) (by rw [HM.out]; omega) (Nat.zero_le _)).mono ?_; rintro e w5 ⟨A5, c5, xs5, rfl, hO5, hB5⟩; have hO5 := hO5.less (Below.size (B := wr.heap.size) (w := wr) (by with_reducible assumption)); have hW5 := keepB hB5 (W := wr) (by with_reducible assumption); have s5 := hW5.size; have s4 : wr.heap.size ≤ wr.heap.size := Nat.le_refl _; (first | (have z5 : Blk w5 wr.heap.size 25 zbk := (by with_reducible exact blk_new_d hB5)) | skip); try (have cz := z5.cell; have fz := z5.frozen)))
              all_goals (go_wp2_with fail; go_meet)
              all_goals first
                | exact ⟨_, _, _, _, rfl, rfl, Blk.new w5 _ _, hO5.alloc _, bel_alloc hW5⟩
                | exact ⟨_, _, _, _, rfl, rfl, set2_blk z5 _ _, hO5.grownB (set2_grown _ _ _ _) z5 (by decide) (by decide), bel_set (bel_set hW5 (by omega)) (by omega)⟩
            case rest =>
              obtain ⟨g, A2, c2, xs2, rfl, rfl, hbg, hO2, hB2⟩ := hcut
              have cg := hbg.cell
              have bbx := (D1.out.after hB2).blk
              have cbb := bbx.cell
              have fbb := bbx.frozen
              have HO2 := Lib.hid hO2
              have HB2 := Lib.hid hB2
              have BBX := Lib.hid bbx
              have HBW := Lib.hid (keepB hB2 HB1.out)
              clear hbg hO2 hB2 bbx
              go_wp2
              go_roundw
              case rel => exact ⟨j + 1, A2, c2, nk, by go_num, by go_num, by omega, by omega, BBox.store BBX.out HO2.out, HGN.out, bel_set (bel_set HBW.out hbb) hbb⟩
              case measure => simp [intOf]; omega
        · have hk8 : decide ((j : Int) < 8) = false := decide_eq_false (by omega)
          go_wp2
          go_meet
          exact ⟨j, A, c, bk, rfl, hj8, hd, hg, hB⟩
      · have hjn' : decide ((j : Int) < (nl : Int)) = false := decide_eq_false (by omega)
        go_wp2
        go_meet
        exact ⟨j, A, c, bk, rfl, hj8, hd, hg, hB⟩
  case rest =>
    obtain ⟨N, A, c, bk, rfl, hN, hd, hg, hB⟩ := hcut
    have D2 := Lib.hid hd
    have HG2 := Lib.hid hg
    have HB2 := Lib.hid hB
    clear hd hg hB D HB
    go_upto_block 2 with (fail)
    go_cut [11] (fun s11 wx => ∃ (a q : Nat) (A : Option Addr) (c : Nat) (bk : Bk), s11 = .int .i64 a ∧ BBox wx bb A c bk ∧ GoBk bk N a q ∧ Below w.heap.size w wx)
    case first =>
      go_wp2_with fail
      go_loopw [11, 12] (fun s11 s12 wr => ∃ (a q : Nat) (A : Option Addr) (c : Nat) (bk : Bk), s11 = .int .i64 a ∧ s12 = .int .i64 q ∧ q ≤ 9 ∧ BBox wr bb A c bk ∧ GoBk bk N a q ∧ Below w.heap.size w wr) (fun _ i _ => 10 - (intOf i).toNat)
      case atStart => exact ⟨0, 0, A, c, bk, rfl, rfl, Nat.zero_le _, D2.out, HG2.out, HB2.out⟩
      case round =>
        obtain ⟨a, q, A, c, bk, rfl, rfl, hq9, hd, hg, hB⟩ := hrel
        by_cases hlt : q < nn % 10
        · have hqb : decide ((q : Int) < (nn : Int) % 10) = true := decide_eq_true (by omega)
          have hq0 : (0 : Int) ≤ (q : Int) := by omega
          obtain ⟨hte, htp, hgn, hne⟩ := goBk_tick hg (by omega)
          obtain ⟨nk, hnk⟩ : ∃ nk, nk = tickK bk := ⟨_, rfl⟩
          rw [← hnk] at hgn hne
          obtain ⟨m, hm⟩ : ∃ m, m = min (N - a) 4 := ⟨_, rfl⟩
          rw [← hm] at htp hgn
          have haN := (goBk_wait hg).2
          have hml : (List.range' a m).length = m := by simp
          have hne' : (nk.eps != (q : Int) + 1) = false := by rw [hne]; simp
          have HNE := Lib.hid hne'
          have HNK := Lib.hid hnk.symm
          have HTE := Lib.hid hte
          have HTP := Lib.hid htp
          have HGN := Lib.hid hgn
          have HM := Lib.hid hm
          have HML := Lib.hid hml
          have HG := Lib.hid hg
          have D1 := Lib.hid hd
          have HB1 := Lib.hid hB
          obtain ⟨q0, q1⟩ := hd.cells
          have hmA : (m : Int) ≤ 4 := by omega
          have hmN : (m : Int) ≤ (N : Int) - (a : Int) := by omega
          clear hte htp hgn hne hnk hml hg hd hB hne'
          by_cases hmn : (N : Int) - (a : Int) < 4
          · have hxb : ((m : Int) != (N : Int) - (a : Int)) = false := by rw [bne_eq_false_iff_eq]; omega
            clear hm
            go_wp2_with (go_at_call 21; refine (tick_m HML.out HNK.out HTE.out HTP.out D1.out.ents D1.out.cap D1.out.cm (sm_check HG.out.ck)).mono ?_; rintro e w5 ⟨A5, c5, xs5, A6, c6, rfl, hO5, hr5, hB5⟩; have hne2 := HNE.out; have b5 := (D1.out.after hB5).blk; have c5b := fun o => (b5.alloc o).cell; have f5b := fun o => (b5.alloc o).frozen; clear q0 q1)
            have nb : Blk (w5.alloc (.cells #[.slice A5 nk.ents.length c5, .int .i64 nk.eps] 25)) w5.heap.size 25 #[.slice A5 nk.ents.length c5, .int .i64 nk.eps] := Blk.new w5 _ _
            have oW := hO5.alloc (.cells #[.slice A5 nk.ents.length c5, .int .i64 nk.eps] 25)
            have bW := b5.alloc (.cells #[.slice A5 nk.ents.length c5, .int .i64 nk.eps] 25)
            have rW := rd_after hr5 (below_one w5 (.cells #[.slice A5 nk.ents.length c5, .int .i64 nk.eps] 25))
            have hW5 : Below w.heap.size w (w5.alloc (.cells #[.slice A5 nk.ents.length c5, .int .i64 nk.eps] 25)) := bel_alloc (keepB hB5 HB1.out)
            have RW := Lib.hid rW
            have OW := Lib.hid oW
            have BW := Lib.hid bW
            have HW5 := Lib.hid hW5
            clear c5b f5b b5 hO5 hr5 hB5 hne2 oW rW hW5
            generalize (w5.alloc (.cells #[.slice A5 nk.ents.length c5, .int .i64 nk.eps] 25)) = W5 at nb bW RW OW BW HW5 ⊢
            go_loop [16] (fun s16 => ∃ p : Nat, p ≤ m ∧ s16 = .int .i64 p) (fun s16 => m - (intOf s16).toNat)
            case atStart => exact ⟨0, Nat.zero_le _, rfl⟩
            case round =>
              obtain ⟨p, hp, rfl⟩ := hrel
              by_cases hpm : p < m
              · obtain ⟨ad, u, rfl, hub, hu, hcu⟩ := RW.out.at_ hpm
                rw [pvs_get hpm] at hu
                injection hu with hu
                subst hu
                have hp0 : (0 : Int) ≤ (p : Int) := by omega
                have hp1 : (p : Int) < (m : Int) := by omega
                have ha0 : (0 : Int) ≤ (a : Int) := by omega
                have ha1 : (a : Int) ≤ 8 := by omega
                have hpb : (((a + p : Nat) : Int) != (a : Int) + (p : Int)) = false := by simp
                go_wp2
                go_round
                case rel => exact ⟨p + 1, by omega, by go_num⟩
                case measure => simp [intOf]; omega
              · have hpn : ¬ (p : Int) < (m : Int) := by omega
                have cN := nb.cell
                have cW := bW.cell
                have fW := bW.frozen
                go_wp2
                go_roundw
                case rel => exact ⟨a + m, q + 1, A5, c5, nk, by go_num, by go_num, by omega, BBox.store BW.out OW.out, HGN.out, bel_set (bel_set HW5.out hbb) hbb⟩
                case measure => simp [intOf]; omega
          · have hxb : ((m : Int) != 4) = false := by rw [bne_eq_false_iff_eq]; omega
            clear hm
            go_wp2_with (go_at_call 21; refine (tick_m HML.out HNK.out HTE.out HTP.out D1.out.ents D1.out.cap D1.out.cm (sm_check HG.out.ck)).mono ?_; rintro e w5 ⟨A5, c5, xs5, A6, c6, rfl, hO5, hr5, hB5⟩; have hne2 := HNE.out; have b5 := (D1.out.after hB5).blk; have c5b := fun o => (b5.alloc o).cell; have f5b := fun o => (b5.alloc o).frozen; clear q0 q1)
            have nb : Blk (w5.alloc (.cells #[.slice A5 nk.ents.length c5, .int .i64 nk.eps] 25)) w5.heap.size 25 #[.slice A5 nk.ents.length c5, .int .i64 nk.eps] := Blk.new w5 _ _
            have oW := hO5.alloc (.cells #[.slice A5 nk.ents.length c5, .int .i64 nk.eps] 25)
            have bW := b5.alloc (.cells #[.slice A5 nk.ents.length c5, .int .i64 nk.eps] 25)
            have rW := rd_after hr5 (below_one w5 (.cells #[.slice A5 nk.ents.length c5, .int .i64 nk.eps] 25))
            have hW5 : Below w.heap.size w (w5.alloc (.cells #[.slice A5 nk.ents.length c5, .int .i64 nk.eps] 25)) := bel_alloc (keepB hB5 HB1.out)
            have RW := Lib.hid rW
            have OW := Lib.hid oW
            have BW := Lib.hid bW
            have HW5 := Lib.hid hW5
            clear c5b f5b b5 hO5 hr5 hB5 hne2 oW rW hW5
            generalize (w5.alloc (.cells #[.slice A5 nk.ents.length c5, .int .i64 nk.eps] 25)) = W5 at nb bW RW OW BW HW5 ⊢
            go_loop [16] (fun s16 => ∃ p : Nat, p ≤ m ∧ s16 = .int .i64 p) (fun s16 => m - (intOf s16).toNat)
            case atStart => exact ⟨0, Nat.zero_le _, rfl⟩
            case round =>
              obtain ⟨p, hp, rfl⟩ := hrel
              by_cases hpm : p < m
              · obtain ⟨ad, u, rfl, hub, hu, hcu⟩ := RW.out.at_ hpm
                rw [pvs_get hpm] at hu
                injection hu with hu
                subst hu
                have hp0 : (0 : Int) ≤ (p : Int) := by omega
                have hp1 : (p : Int) < (m : Int) := by omega
                have ha0 : (0 : Int) ≤ (a : Int) := by omega
                have ha1 : (a : Int) ≤ 8 := by omega
                have hpb : (((a + p : Nat) : Int) != (a : Int) + (p : Int)) = false := by simp
                go_wp2
                go_round
                case rel => exact ⟨p + 1, by omega, by go_num⟩
                case measure => simp [intOf]; omega
              · have hpn : ¬ (p : Int) < (m : Int) := by omega
                have cN := nb.cell
                have cW := bW.cell
                have fW := bW.frozen
                go_wp2
                go_roundw
                case rel => exact ⟨a + m, q + 1, A5, c5, nk, by go_num, by go_num, by omega, BBox.store BW.out OW.out, HGN.out, bel_set (bel_set HW5.out hbb) hbb⟩
                case measure => simp [intOf]; omega
        · have hqb : decide ((q : Int) < (nn : Int) % 10) = false := decide_eq_false (by omega)
          go_wp2
          go_meet
          exact ⟨a, q, A, c, bk, rfl, hd, hg, hB⟩
    case rest =>
      obtain ⟨a, q, A, c, bk, rfl, hd, hg, hB⟩ := hcut
      obtain ⟨q0, q1⟩ := hd.cells
      have hw1 := (goBk_wait hg).1
      have haN := (goBk_wait hg).2
      have hwt : waitN bk = ((N - a : Nat) : Int) := by rw [waitN_ok hg.ck, hw1]
      have hlen : bk.ents.length = N := hg.len
      have HWT := Lib.hid hwt
      have HLEN := Lib.hid hlen
      have D3 := Lib.hid hd
      have HB3 := Lib.hid hB
      have hsub : (N : Int) - (a : Int) = ((N - a : Nat) : Int) := by omega
      have hlb : ((bk.ents.length : Int) == (N : Int)) = true := by rw [hlen]; simp
      have hlb2 : (bk.ents.length == N) = true := by rw [hlen]; simp
      have heb : (((N - a : Nat) : Int) == (N : Int) - (a : Int)) = true := by rw [hsub]; simp
      clear hwt hlen hd hg hB hw1 hsub
      go_wp2_with (go_at_call 17; refine (waiting_any A c bk _ D3.out.ents D3.out.cap D3.out.cm).mono ?_; rw [HWT.out]; rintro e w7 ⟨rfl, hB7⟩; clear q0 q1; obtain ⟨q0, q1⟩ := (D3.out.after hB7).cells)
      go_ret
      exact ⟨rfl, keepB hB7 HB3.out⟩
end Go.Proofs.Ytkiijbbcfbkecaa
