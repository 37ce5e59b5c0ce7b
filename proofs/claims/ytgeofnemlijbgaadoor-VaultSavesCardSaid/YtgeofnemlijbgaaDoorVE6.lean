/- The document's Do. -/
import Derived.Test.YtgeofnemlijbgaaDoorVE3
import Derived.Test.YtgeofnemlijbgaaDoorVE1
namespace Go.Proofs.YtgeofnemlijbgaaDoor
open Go.RowKit
set_option linter.unusedVariables false

set_option maxRecDepth 100000 in
set_option maxHeartbeats 400000 in
theorem rdo_bad (A : Option Addr) (c : Nat) (d : Dsk) (Al : Option Addr) (nl cl : Nat) (l : List Wr) (w : World) (hd : Bss w w.heap.size A d.secs.length d.secs) (hs : Sm d.secs) (hck : checkB d.secs = false) :
    Calls Tryd.prog 44 #[dvD A c d, .slice Al nl cl] w (DRet w (doD d l).1 fun v => .tuple #[v, .int .i64 (doD d l).2]) := by
  have hdo : doD d l = (d, 1) := by simp [doD, hck]
  rw [hdo]
  obtain ⟨ss, left, torn, off, done⟩ := d
  dsimp only at hd hs hck ⊢
  have Hd := Lib.hid hd
  have Hs := Lib.hid hs
  have hm : ss.length ≤ maxLen := by have := hs.1; unfold maxLen; omega
  clear hd hs hdo
  go_enter Tryd.func44, Tryd.ntmps44
  go_wp2_with (first
    | (go_at_call 47; refine (copy_any A c ⟨ss, left, torn, off, done⟩ _ ?h2 Hs.out).mono ?_; rotate_left; rintro e w1 ⟨A1, c1, vs, rfl, hO, hB⟩; obtain ⟨b0, b1, hB1⟩ := two_boxes_below hB; have cc0 := b0.cell; have cc0a := fun o => (b0.alloc o).cell)
    | (go_at_call 38; refine (rcheck_any A ss.length c left torn off done ss _ ?h1 hm).mono ?_; rotate_left; rintro e w2 ⟨rfl, hB0⟩; have b1' := (b1.alloc _).below hB0 (b1.alloc _).lt; have cc1' := b1'.cell; have ff1' := b1'.frozen; have bo := (Blk.new w1 _ _).below hB0 (by simp); have cco := bo.cell; have hO2 := (hO.alloc _).below hB0; have hB2 := (hB1.alloc hB1.size _).trans (hB0.mono (by have := hB1.size; simp; omega))))
  case h2 => exact bss_two Hd.out _ _ (by first | omega | (simp; omega))
  case h1 => exact bss_one (bss_after Hd.out hB1) _ (by first | omega | (simp; done) | (simp; omega))
  refine bodyPost_ret (v := .tuple #[dv A1 ss.length c1 left torn off done, .int .i64 1]) (by simp [results, Tryd.results44, go_sem, cc1']) rfl ?_
  exact dret_fin (fun v => .tuple #[v, .int .i64 1]) left torn off done hO2 (by simp; omega) hB2 b1' (by omega)

/-- What holds behind k writes. -/
structure RInv (w wr : World) (base O R n : Nat) (V : Value) (vs : List Value) (r : Dsk × Int) (l : List Wr) (k : Nat) (dk : Dsk) : Prop where
  res : r = doL dk (l.drop k)
  good : GoodD dk
  len : dk.secs.length = n
  box : Blk wr O 24 (bx V dk)
  own : OwnS wr base V vs dk.secs
  bel : Below w.heap.size w wr
  out : Blk wr R 24 zbx

theorem RInv.now {w wr : World} {base O R n : Nat} {V : Value} {vs : List Value} {r : Dsk × Int} {l : List Wr} {k : Nat} {dk : Dsk} {x : Wr} {err : Int} (h : RInv w wr base O R n V vs r l k dk) (hx : l[k]? = some x) (hw : wrD dk x = (dk, err)) (he : err ≠ 0) : r = (dk, err) := by
  have hr := h.res
  rw [drop_at hx, doL_stop (by rw [hw]; exact he), hw] at hr
  exact hr

/-- A byte of a row is written. -/
theorem OwnS.setByte {w : World} {base : Nat} {V : Value} {vs : List Value} {ss : List (List UInt8)} (h : OwnS w base V vs ss) {i j g cap : Nat} {l : List UInt8} (b : UInt8) (hv : vs[i]? = some (.slice (some ⟨g, 0, none⟩) l.length cap)) (hl : ss[i]? = some l) :
    OwnS (w.setCell ⟨g, j, none⟩ (.int .u8 (b.toNat : Int))) base V vs (ss.set i (l.set j b)) := by
  obtain ⟨l', hl', ho⟩ := h.inner i _ hv
  rw [hl] at hl'
  injection hl' with hl'
  subst hl'
  have hst := ho.stored j (.int .u8 (b.toNat : Int))
  refine h.setSec hv hst.2 ?_
  have e : (bvs l).set j (.int .u8 (b.toNat : Int)) = bvs (l.set j b) := by simp [bvs, bv, List.map_set]
  rw [e] at hst
  rw [List.length_set]
  exact hst.1

/-- A sector whose first j bytes are new. -/
def part (data l : List UInt8) (j : Nat) : List UInt8 := data.take j ++ l.drop j
theorem part_length {data l : List UInt8} {j : Nat} (h : data.length = l.length) (hj : j ≤ l.length) : (part data l j).length = l.length := by simp [part]; omega
theorem part_step {data l : List UInt8} {j : Nat} {b : UInt8} (h : data.length = l.length) (hb : data[j]? = some b) : (part data l j).set j b = part data l (j + 1) := by
  have hj := (List.getElem?_eq_some_iff.1 hb).1
  unfold part
  have hl : (data.take j).length = j := by rw [List.length_take]; omega
  rw [List.set_append_right _ _ (by omega), hl, Nat.sub_self, List.take_add_one, hb, List.drop_eq_getElem_cons (by omega), List.set_cons_zero]
  simp

theorem copy_in2 {wr W w2 : World} {H : Nat} {v1 : Value} (hg : W.grownBy w2 (Value.ownBlock (.slice (some ⟨H, 0, none⟩) 0 0))) (hat : v1.ownBlock = Value.ownBlock (.slice (some ⟨H, 0, none⟩) 0 0) ∨ v1.ownBlock = some W.heap.size) (hW : wr.grownBy W none) (hH : wr.heap.size ≤ H) :
    wr.grownBy w2 none ∧ ∀ g, v1.ownBlock = some g → wr.heap.size ≤ g := by
  refine ⟨⟨hg.os.trans hW.os, hg.tape.trans hW.tape, hg.output.trans hW.output, Nat.le_trans hW.size hg.size, fun i hi hne => (hg.block i (Nat.lt_of_lt_of_le hi hW.size) (fun e => ?_)).trans (hW.block i hi hne)⟩, fun g e => ?_⟩
  · injection (show some i = some H from e) with e
    omega
  · have := hW.size
    rcases hat with h | h
    · rw [h] at e
      injection (show some H = some g from e) with e
      omega
    · rw [h] at e
      injection e with e
      omega
theorem RInv.step {w wr w' : World} {base O R n : Nat} {V : Value} {vs vs' : List Value} {r : Dsk × Int} {l : List Wr} {k : Nat} {dk d' : Dsk} {x : Wr} (h : RInv w wr base O R n V vs r l k dk) (hx : l[k]? = some x) (hw : wrD dk x = (d', 0)) (hb : Blk w' O 24 (bx V d')) (ho : OwnS w' base V vs' d'.secs) (hB : Below w.heap.size w w') (hR : Blk w' R 24 zbx) : RInv w w' base O R n V vs' r l (k + 1) d' := by
  have hr := h.res
  have hg := good_wr x h.good
  have hl := (wrD_len dk x).trans h.len
  rw [drop_at hx, doL_go (by rw [hw]), hw] at hr
  rw [hw] at hg hl
  exact ⟨hr, hg, hl, hb, ho, hB, hR⟩
theorem RInv.fin {w wr : World} {base O R n : Nat} {V : Value} {vs : List Value} {r : Dsk × Int} {l : List Wr} {k : Nat} {dk d' : Dsk} {x : Wr} {err : Int} (h : RInv w wr base O R n V vs r l k dk) (hx : l[k]? = some x) (hw : wrD dk x = (d', err)) (he : err ≠ 0) : r = (d', err) := by
  have hr := h.res
  rw [drop_at hx, doL_stop (by rw [hw]; exact he), hw] at hr
  exact hr
/-- A row that has an element has an address. -/
theorem Rd.some_ {w : World} {B n : Nat} {A : Option Addr} {xs : List Value} (h : Rd w B A n xs) (hn : 0 < n) : ∃ b o, A = some ⟨b, o, none⟩ ∧ b < B ∧ ∀ (j : Nat) (u : Value), xs[j]? = some u → w.cell? ⟨b, o + j, none⟩ = some u := by
  obtain ⟨⟨b, o, sp⟩, e, hb, hc⟩ := h.2 hn
  have h0 : xs[0]? = some (xs[0]'(by rw [h.1]; exact hn)) := List.getElem?_eq_getElem _
  have hsp : sp = none := by simpa [Addr.add] using World.cell?_spot (hc 0 _ h0)
  subst hsp
  exact ⟨b, o, e, hb, fun j u hu => by have := hc j u hu; rwa [Addr.add_lit] at this⟩
theorem far_cell {w : World} {g i g' j : Nat} {u v : Value} (h : w.cell? ⟨g, i, none⟩ = some v) (hne : ¬ g = g') : (w.setCell ⟨g', j, none⟩ u).cell? ⟨g, i, none⟩ = some v :=
  (World.cell?_of_block (Below.heap_setCell w ⟨g', j, none⟩ u g hne)).trans h
theorem far_cell_d {w : World} {g i g' j : Nat} {u v : Value} (h : w.cell? ⟨g, i, none⟩ = some v) (hne : ¬ g = g') : (w.setCell ⟨g', j, none⟩ u).drew.cell? ⟨g, i, none⟩ = some v := far_cell h hne
theorem blk_ne6 {w : World} {g g' : Nat} {t t' : TypeId} {cs cs' : Array Value} (h : Blk w g t cs) (h' : Blk w g' t' cs') (hne : t ≠ t') : ¬ g = g' := by
  rintro rfl
  unfold Blk at h h'
  rw [h] at h'
  injection h' with h'
  injection h' with _ ht
  exact hne ht

theorem torn_facts {w : World} {base G n c g cg i j O Wb L : Nat} {vs : List Value} {sk : List (List UInt8)} {p : List UInt8} {cO cW : Array Value} (h : OwnS w base (.slice (some ⟨G, 0, none⟩) n c) vs (sk.set i p)) (hv : vs[i]? = some (.slice (some ⟨g, 0, none⟩) L cg)) (hi : i < sk.length) (hp : p.length = L) (hj : j < L) (hO : Blk w O 24 cO) (hW : Blk w Wb 60 cW) :
    w.cell? ⟨G, i, none⟩ = some (.slice (some ⟨g, 0, none⟩) L cg) ∧ (∃ u, w.cell? ⟨g, j, none⟩ = some u) ∧ w.frozen? ⟨g, j, none⟩ = false ∧ ¬ O = g ∧ ¬ Wb = g ∧ ¬ G = g := by
  obtain ⟨G', cap, v, l, hV, _, _, _, _, hv', hl, hc, _, hol⟩ := h.at_ (i := i) (by rw [List.length_set]; exact hi)
  rw [hv] at hv'
  injection hv' with hv'
  subst hv'
  simp only [Value.slice.injEq, Option.some.injEq, Addr.mk.injEq, and_true] at hV
  obtain ⟨rfl, _⟩ := hV
  rw [List.getElem?_set_self hi] at hl
  injection hl with hl
  subst hl
  subst hp
  obtain ⟨cur, hh, _, _⟩ := own_block hol (g := g) rfl
  obtain ⟨curG, bG⟩ := h.blk rfl
  refine ⟨hc, ⟨(bvs p)[j]'(by rw [bvs_length]; exact hj), ?_⟩, hol.frozenAt j, blk_ne6 hO (show Blk w g 5 cur from hh) (by decide), blk_ne6 hW (show Blk w g 5 cur from hh) (by decide), blk_ne6 bG (show Blk w g 5 cur from hh) (by decide)⟩
  rw [hol.cellAt j (by omega)]
  exact List.getElem?_eq_getElem _

set_option maxRecDepth 100000 in
set_option maxHeartbeats 4000000 in
theorem rdo_good (A : Option Addr) (c : Nat) (d : Dsk) (Al : Option Addr) (nl cl : Nat) (l : List Wr) (w : World) (hd : Bss w w.heap.size A d.secs.length d.secs) (hs : Sm d.secs) (hck : checkB d.secs = true) (hl : Wrs w w.heap.size Al nl l) (hcl : nl ≤ 10000) (hli : d.left ≤ 9223372036854775807) :
    Calls Tryd.prog 44 #[dvD A c d, .slice Al nl cl] w (DRet w (doD d l).1 fun v => .tuple #[v, .int .i64 (doD d l).2]) := by
  obtain ⟨i2, hi2, hz2, hs2, hb2⟩ := info_parts infoTB
  have hdo : doD d l = doL d l := by simp [doD, hck]
  rw [hdo]
  have HG := Lib.hid (good_check hck hli)
  obtain ⟨r, hD0⟩ : ∃ r, r = doL d l := ⟨_, rfl⟩
  rw [← hD0]
  obtain ⟨ss, left, torn, off, done⟩ := d
  dsimp only at hd hs hck
  have Hd := Lib.hid hd
  have Hs := Lib.hid hs
  have HD := Lib.hid hD0
  have Hl := Lib.hid hl
  have hm : ss.length ≤ maxLen := by have := hs.1; unfold maxLen; omega
  have hm0 : ss.length ≤ 2048 := hs.1
  clear hd hs hdo hD0 hl hli
  go_enter Tryd.func44, Tryd.ntmps44
  go_wp2_with (first
    | (go_at_call 47; refine (copy_any A c ⟨ss, left, torn, off, done⟩ _ ?h2 Hs.out).mono ?_; rotate_left; rintro e w1 ⟨A1, c1, vs, rfl, hO, hB⟩; obtain ⟨b0, b1, hB1⟩ := two_boxes_below hB; have cc0 := b0.cell; have cc0a := fun o => (b0.alloc o).cell)
    | (go_at_call 38; refine (rcheck_any A ss.length c left torn off done ss _ ?h1 hm).mono ?_; rotate_left; rintro e w2 ⟨rfl, hB0⟩; have b1' := (b1.alloc _).below hB0 (b1.alloc _).lt; have bo := (Blk.new w1 _ _).below hB0 (by simp); have hO2 := (hO.alloc _).below hB0; have hB2 := (hB1.alloc hB1.size _).trans (hB0.mono (by have := hB1.size; simp; omega))))
  case h2 => exact bss_two Hd.out _ _ (by first | omega | (simp; omega))
  case h1 => exact bss_one (bss_after Hd.out hB1) _ (by first | omega | (simp; done) | (simp; omega))
  have hI : RInv w w2 (w.heap.size + 2) w1.heap.size (w.heap.size + 1) ss.length (.slice A1 ss.length c1) vs r l 0 ⟨ss, left, torn, off, done⟩ :=
    ⟨by rw [HD.out]; simp, HG.out, rfl, bo, hO2.less (by simp), hB2, b1'⟩
  have hRO : w.heap.size + 1 < w1.heap.size := b1.lt
  clear cc0 cc0a hO hB hB0 hB1 b0 b1 b1' bo hO2 hB2
  go_loopw [8] (fun i wr => ∃ (k : Nat) (dk : Dsk) (vs : List Value), k ≤ nl ∧ i = .int .i64 k ∧ RInv w wr (w.heap.size + 2) w1.heap.size (w.heap.size + 1) ss.length (.slice A1 ss.length c1) vs r l k dk) (fun i _ => nl - (intOf i).toNat)
  case atStart => exact ⟨0, _, _, Nat.zero_le _, rfl, hI⟩
  case round =>
    obtain ⟨k, dk, vs, hk, rfl, hJ⟩ := hrel
    have J := Lib.hid hJ
    have cO := hJ.box.cell
    have cR := hJ.out.cell
    have fR := hJ.out.frozen
    have hOlt := hJ.box.lt
    have hsz := hJ.bel.size
    by_cases hlt : k < nl
    · obtain ⟨lb, lo, ⟨xa, xd⟩, Ad, cd, rfl, hb, hx, g1, g2, g3, g4, g5⟩ := Hl.out.at_ hlt
      have q1 := (hJ.bel.cell (p := ⟨lb, lo + k * 2, none⟩) hb).trans g1
      have q2 := (hJ.bel.cell (p := ⟨lb, lo + k * 2 + 1, none⟩) hb).trans g2
      have X := Lib.hid hx
      have R5 := Lib.hid (g5.below hJ.bel)
      have cOa := fun o => (hJ.box.alloc o).cell
      have cRa := fun o => (hJ.out.alloc o).cell
      have fRa := fun o => (hJ.out.alloc o).frozen
      dsimp only at q1 q2 g3
      clear g1 g2 g5 hx hI hJ
      cases hbad : badW dk (xa, xd)
      · obtain ⟨hx0, hx1, hx2⟩ := badW_false hbad
        rw [J.out.len] at hx1
        dsimp only at hx0 hx1 hx2
        obtain ⟨sk, lk, tk, ok, nk⟩ := dk
        have HB := Lib.hid hbad
        have d3 : ((xd.length : Int) != 64) = false := by rw [hx2]; rfl
        have HX2 := Lib.hid hx2
        clear hbad hx2
        cases ok
        · by_cases hl0 : lk = 0
          · subst hl0
            obtain ⟨wo, rfl⟩ : ∃ wo : World, wo = wr := ⟨_, rfl⟩
            have d1 : decide (xa < 0) = false := by simp; omega
            have d2 : decide ((ss.length : Int) ≤ xa) = false := by simp; omega
            obtain ⟨G, cap, v, l0, hV, j1, j2, j3, hGl, hv, hl0, hcv, hfv, hol⟩ := J.out.own.at_ (i := xa.toNat) (by have := J.out.len; dsimp only at this ⊢; omega)
            simp only [Value.slice.injEq] at hV
            obtain ⟨f1, f2, f3⟩ := hV
            subst f1
            clear f2 f3 j1 j2
            have hl64 : l0.length = 64 := J.out.good.1 _ _ hl0
            have hlx : xd.length = l0.length := HX2.out.trans hl64.symm
            obtain ⟨g, cg, hvg, hgb⟩ : ∃ g cg, v = .slice (some ⟨g, 0, none⟩) l0.length cg ∧ w.heap.size + 2 ≤ g := by
              rcases hol.2 with ⟨_, h0⟩ | ⟨g, cg, _, h1, h2, _⟩
              · omega
              · exact ⟨g, cg, h1, h2⟩
            subst hvg
            obtain ⟨curG, bG⟩ := J.out.own.blk rfl
            have nG := blk_ne6 J.out.box bG (by decide)
            obtain ⟨ab, ao, hA, hab, hcx⟩ := R5.out.some_ (by rw [HX2.out]; omega)
            subst hA
            have hw : wrD ⟨sk, 0, tk, false, nk⟩ (xa, xd) = (⟨sk.set xa.toNat (part xd l0 (tornN tk)), 0, tk, true, nk⟩, 170) := by
              have e : secAt ⟨sk, 0, tk, false, nk⟩ xa = l0 := by simp [secAt, hl0]
              simp [wrD, HB.out, e, part]
            have hr := J.out.fin X.out hw (by decide)
            have HRr := Lib.hid hr
            have hxn : 0 ≤ xa ∧ xa < (ss.length : Int) := ⟨hx0, hx1⟩
            have ht0 := tornN_le tk
            have hO1 := J.out.own.alloc (.cells #[.int .i64 xa, .slice (some ⟨ab, ao, none⟩) xd.length cd] 60)
            have hO2 : OwnS (wo.alloc (.cells #[.int .i64 xa, .slice (some ⟨ab, ao, none⟩) xd.length cd] 60)) (w.heap.size + 2) (.slice (some ⟨G, 0, none⟩) ss.length c1) vs (sk.set xa.toNat (part xd l0 0)) := by
              have e : sk.set xa.toNat (part xd l0 0) = sk := by
                have : part xd l0 0 = l0 := by simp [part]
                rw [this]
                apply List.ext_getElem?
                intro i
                by_cases hi : xa.toNat = i
                · subst hi; rw [List.getElem?_set_self (List.getElem?_eq_some_iff.1 hl0).1]; exact hl0.symm
                · rw [List.getElem?_set_ne hi]
              rw [e]; exact hO1
            have bO1 := J.out.box.alloc (.cells #[.int .i64 xa, .slice (some ⟨ab, ao, none⟩) xd.length cd] 60)
            have bR1 := J.out.out.alloc (.cells #[.int .i64 xa, .slice (some ⟨ab, ao, none⟩) xd.length cd] 60)
            have bW1 : Blk (wo.alloc (.cells #[.int .i64 xa, .slice (some ⟨ab, ao, none⟩) xd.length cd] 60)) wo.heap.size 60 #[.int .i64 xa, .slice (some ⟨ab, ao, none⟩) xd.length cd] := Blk.new wo _ _
            have hB1 := J.out.bel.alloc hsz (.cells #[.int .i64 xa, .slice (some ⟨ab, ao, none⟩) xd.length cd] 60)
            have HLX := Lib.hid hlx
            have HL64 := Lib.hid hl64
            have HV := Lib.hid hv
            have HCX := Lib.hid hcx
            have HCV := Lib.hid hcv
            have HSL := Lib.hid (List.getElem?_eq_some_iff.1 hl0).1
            clear hw hr hol hl0 hlx hl64 hv bG hcx hO1 hcv
            go_wp2
            go_loopw [10] (fun i w5 => ∃ j : Nat, j ≤ tornN tk ∧ i = .int .i64 j ∧ OwnS w5 (w.heap.size + 2) (.slice (some ⟨G, 0, none⟩) ss.length c1) vs (sk.set xa.toNat (part xd l0 j)) ∧ Blk w5 w1.heap.size 24 (bx (.slice (some ⟨G, 0, none⟩) ss.length c1) ⟨sk, 0, tk, false, nk⟩) ∧ Blk w5 (w.heap.size + 1) 24 zbx ∧ Blk w5 wo.heap.size 60 #[.int .i64 xa, .slice (some ⟨ab, ao, none⟩) xd.length cd] ∧ Below w.heap.size w w5) (fun i _ => 64 - (intOf i).toNat)
            case atStart => exact ⟨0, Nat.zero_le _, rfl, hO2, bO1, bR1, bW1, hB1⟩
            case round =>
              obtain ⟨j, hj, rfl, hO5, bO5, bR5, bW5, hB5⟩ := hrel
              clear hO2 bO1 bR1 bW1 hB1 cO cR fR cOa cRa fRa q1 q2
              have O5 := Lib.hid hO5
              have BO5 := Lib.hid bO5
              have BR5 := Lib.hid bR5
              have BW5 := Lib.hid bW5
              have cO5 := bO5.cell
              have fO5 := bO5.frozen
              have cW5 := bW5.cell
              have cR5 := bR5.cell
              have fR5 := bR5.frozen
              by_cases hjt : j < tornN tk
              · have hj1 : j < 64 := by omega
                have hj2 : (j : Int) < tk := by unfold tornN at hjt; omega
                have hj3 : (0 : Int) ≤ (j : Int) := by omega
                have hjx : (j : Int) < (xd.length : Int) := by have := HX2.out; omega
                have hjl : (j : Int) < (l0.length : Int) := by have := HL64.out; omega
                have hjx' : j < xd.length := by omega
                obtain ⟨cG5, cg5, fg5, ng⟩ := torn_facts (j := j) hO5 HV.out HSL.out (part_length HLX.out (by have := HL64.out; omega)) (by have := HL64.out; omega) bO5 bW5
                have hdc : wr.cell? ⟨ab, ao + j, none⟩ = some (.int .u8 (xd[j].toNat : Int)) := (hB5.cell (p := ⟨ab, ao + j, none⟩) (by omega)).trans ((J.out.bel.cell (p := ⟨ab, ao + j, none⟩) (by omega)).symm.trans (HCX.out j _ (bvs_get hjx')))
                obtain ⟨u0, cg5⟩ := cg5
                obtain ⟨ng1, ng2, ng3⟩ := ng
                have ng4 : ¬ ab = g := by omega
                have hxn0 : 0 ≤ xa := hx0
                clear hO5 bO5 bR5 bW5
                go_wp2
                go_region_held3 (fun w' => w'.cell? ⟨w1.heap.size, 0, none⟩ = some (.slice (some ⟨G, 0, none⟩) ss.length c1) ∧ w'.cell? ⟨wo.heap.size, 0, none⟩ = some (.int .i64 xa) ∧ w'.cell? ⟨wo.heap.size, 1, none⟩ = some (.slice (some ⟨ab, ao, none⟩) xd.length cd) ∧ w'.cell? ⟨G, xa.toNat, none⟩ = some (.slice (some ⟨g, 0, none⟩) l0.length cg) ∧ w'.cell? ⟨ab, ao + j, none⟩ = some (.int .u8 (xd[j].toNat : Int)))
                  (first | (refine ⟨?_, ?_, ?_, ?_, ?_⟩ <;> first | exact far_cell_d (cO5 0) ng1 | exact far_cell_d (cW5 0) ng2 | exact far_cell_d (cW5 1) ng2 | exact far_cell_d cG5 ng3 | exact far_cell_d hdc ng4) | (refine ⟨?_, ?_, ?_, ?_, ?_⟩ <;> first | exact cO5 0 | exact cW5 0 | exact cW5 1 | exact cG5 | exact hdc) | go_keep)
                  (fail)
                go_wp2
                have hO6 := O5.out.setByte (i := xa.toNat) (j := j) (g := g) (cap := cg) (l := part xd l0 j) xd[j] (by rw [part_length HLX.out (by have := HL64.out; omega)]; exact HV.out) (List.getElem?_set_self HSL.out)
                rw [List.set_set, part_step HLX.out (List.getElem?_eq_getElem hjx')] at hO6
                go_roundw
                case rel => exact ⟨j + 1, by omega, by go_num, hO6.drew, BO5.out.far (p := ⟨g, j, none⟩) ng1 _, BR5.out.far (p := ⟨g, j, none⟩) (by show ¬ w.heap.size + 1 = g; omega) _, BW5.out.far (p := ⟨g, j, none⟩) ng2 _, (hB5.setCell (p := ⟨g, j, none⟩) (by show w.heap.size ≤ g; omega) _).drew⟩
                case measure => simp [intOf]; omega
              · obtain rfl : j = tornN tk := by omega
                have hcase : tornN tk = 64 ∨ (tornN tk < 64 ∧ tk ≤ (tornN tk : Int)) := by unfold tornN; omega
                clear hO5 bO5 bR5 bW5
                have nRO : ¬ w.heap.size + 1 = w1.heap.size := by omega
                obtain ⟨tn, htn⟩ : ∃ tn, tn = tornN tk := ⟨_, rfl⟩
                rw [← htn] at hcase ⊢
                have HTN := Lib.hid htn
                clear htn
                rcases hcase with hc | ⟨hc, hc'⟩
                · subst hc
                  go_wp2
                  refine bodyPost_ret (v := .tuple #[dv (some ⟨G, 0, none⟩) ss.length c1 0 tk true nk, .int .i64 170]) (by simp [results, Tryd.results44, go_sem, cR5]) rfl ?_
                  have O6 := O5.out.setCell (p := ⟨w1.heap.size, 3, none⟩) BO5.out (by decide) (by decide) (.bool true)
                  exact do_close HRr.out (by dsimp only; rw [List.length_set]; exact J.out.len) (O6.less (by omega)) (hB5.setCell (p := ⟨w1.heap.size, 3, none⟩) (by show w.heap.size ≤ w1.heap.size; omega) _) (BR5.out.far (p := ⟨w1.heap.size, 3, none⟩) nRO _) (by omega)
                · go_wp2
                  refine bodyPost_ret (v := .tuple #[dv (some ⟨G, 0, none⟩) ss.length c1 0 tk true nk, .int .i64 170]) (by simp [results, Tryd.results44, go_sem, cR5]) rfl ?_
                  have O6 := O5.out.setCell (p := ⟨w1.heap.size, 3, none⟩) BO5.out (by decide) (by decide) (.bool true)
                  exact do_close HRr.out (by dsimp only; rw [List.length_set]; exact J.out.len) (O6.less (by omega)) (hB5.setCell (p := ⟨w1.heap.size, 3, none⟩) (by show w.heap.size ≤ w1.heap.size; omega) _) (BR5.out.far (p := ⟨w1.heap.size, 3, none⟩) nRO _) (by omega)
          · have e0 : (lk == 0) = false := by simpa using hl0
            obtain ⟨G, cap, v, l0, hV, j1, j2, j3, hGl, hv, j4, hcv, hfv, j5⟩ := J.out.own.at_ (i := xa.toNat) (by have := J.out.len; dsimp only at this ⊢; omega)
            simp only [Value.slice.injEq] at hV
            obtain ⟨f1, f2, f3⟩ := hV
            subst f1
            clear f2 f3 j1 j2 j4 j5
            obtain ⟨curG, bG⟩ := J.out.own.blk rfl
            have nG := blk_ne6 J.out.box bG (by decide)
            have hw : wrD ⟨sk, lk, tk, false, nk⟩ (xa, xd) = (⟨sk.set xa.toNat xd, if 0 < lk then lk - 1 else lk, tk, false, wrap64 (nk + 1)⟩, 0) := by simp [wrD, HB.out, hl0]
            have HW := Lib.hid hw
            have hli := J.out.good.2
            dsimp only at hli
            have hxn : 0 ≤ xa ∧ xa < (ss.length : Int) := ⟨hx0, hx1⟩
            have hmade : ((wr.alloc (.cells #[.int .i64 xa, .slice Ad xd.length cd] 60)).alloc (.cells #[] 5)).ownsRow (w.heap.size + 2) 5 1 (.slice (some ⟨wr.heap.size + 1, 0, none⟩) 0 0) 0 [] := by
              simpa using World.ownsRow_made (e := 5) (size := 1) (wr.alloc (.cells #[.int .i64 xa, .slice Ad xd.length cd] 60)) #[] 0 (base := w.heap.size + 2) (by simp; omega) (Nat.zero_le _) rfl
            have hrd : Rd ((wr.alloc (.cells #[.int .i64 xa, .slice Ad xd.length cd] 60)).alloc (.cells #[] 5)) w.heap.size Ad (xd.length * 1) (bvs xd) := by rw [Nat.mul_one]; exact R5.out.below ((below_two wr _ _).mono hsz)
            have m1 : 0 + xd.length ≤ maxLen := by rw [HX2.out]; unfold maxLen; omega
            have m2 : (0 + xd.length) * 1 ≤ 140737488355328 := by rw [HX2.out]; omega
            have m3 : w.heap.size + 2 ≤ ((wr.alloc (.cells #[.int .i64 xa, .slice Ad xd.length cd] 60)).alloc (.cells #[] 5)).heap.size := by simp; omega
            have HM := Lib.hid hmade
            have HR := Lib.hid hrd
            have M1 := Lib.hid m1
            have M2 := Lib.hid m2
            have M3 := Lib.hid m3
            have BG := Lib.hid bG
            have HV := Lib.hid hv
            have bW : Blk (wr.alloc (.cells #[.int .i64 xa, .slice Ad xd.length cd] 60)) wr.heap.size 60 #[.int .i64 xa, .slice Ad xd.length cd] := Blk.new wr _ _
            have BW := Lib.hid bW
            have HGW := Lib.hid (World.grownBy_alloc wr (.cells #[.int .i64 xa, .slice Ad xd.length cd] 60) none)
            have nG2 : ¬ wr.heap.size = G := by omega
            have nG3 : ¬ wr.heap.size + 1 = G := by omega
            have nO2 : ¬ w1.heap.size = wr.heap.size := by omega
            have hGb : w.heap.size ≤ G := by omega
            have nGR : ¬ w.heap.size + 1 = G := by omega
            have nRO : ¬ w.heap.size + 1 = w1.heap.size := by omega
            clear hl0 hw hmade hrd m1 m2 m3 bG hv bW
            by_cases hpos : 0 < lk
            · skip
              go_wp2
              go_region_held3 (fun w' => w'.cell? ⟨w1.heap.size, 0, none⟩ = some (.slice (some ⟨G, 0, none⟩) ss.length c1) ∧ w'.cell? ⟨wr.heap.size, 0, none⟩ = some (.int .i64 xa) ∧ w'.cell? ⟨wr.heap.size, 1, none⟩ = some (.slice Ad xd.length cd))
                (first | go_keep | (go_split_ands; exact ⟨far_cell (cO3 0) nG, far_cell (cW3 0) nG2, far_cell (cW3 1) nG2⟩) | (go_split_ands; exact ⟨cO3 0, cW3 0, cW3 1⟩))
                ((refine step_append_any _ (by rfl) (.tmp 81) (.tmp 83) 25 (by rfl) (w.heap.size + 2) 5 i2 (.int .u8 0) 1 1 Tryd.underlying25 hi2 hz2 hs2 hb2 rfl (by omega) (.slice (some ⟨wr.heap.size + 1, 0, none⟩) 0 0) 0 [] (by rfl) HM.out w.heap.size Ad xd.length cd (bvs xd) (by rfl) HR.out (bvs_one xd) M1.out M2.out M3.out ?_; intro v1 w3 hown3 hgr3 hat3; simp only [Nat.zero_add, List.nil_append] at hown3; have hCI := Lib.hid (copy_in2 hgr3 hat3 (grown_drew (World.grownBy_alloc (wr.alloc (.cells #[.int .i64 xa, .slice Ad xd.length cd] 60)) _ none)) (by simp)); obtain ⟨A3, c3, rfl, q3, q4⟩ := own_form hown3; have bO3 := (J.out.box.alloc (.cells #[.int .i64 xa, .slice Ad xd.length cd] 60)).grown hCI.out.1 (by simp); have cO3 := bO3.cell; have bW3 := BW.out.grown hCI.out.1 (by simp); have cW3 := bW3.cell; have fO3 := bO3.frozen; have hO3 := (J.out.own.alloc (.cells #[.int .i64 xa, .slice Ad xd.length cd] 60)).grown0 hCI.out.1; have bG3 := (BG.out.alloc (.cells #[.int .i64 xa, .slice Ad xd.length cd] 60)).grown hCI.out.1 (by simp); have cG3 : w3.cell? ⟨G, xa.toNat, none⟩ = some v := (bG3.cell _).trans ((BG.out.cell _).symm.trans hcv); have fG3 := bG3.frozen xa.toNat; have HO3 := Lib.hid hO3; have BO3 := Lib.hid bO3; have HN3 := Lib.hid hown3; clear hO3 bO3 bW3 bG3 hgr3 hat3 hown3))
              go_wp2
              have hO4 := HO3.out.setOuter (i := xa.toNat) (v' := .slice A3 xd.length c3) (l' := xd) (by have := J.out.len; dsimp only at this ⊢; omega) HN3.out ((J.out.own.alloc (.cells #[.int .i64 xa, .slice Ad xd.length cd] 60)).fresh hCI.out.2)
              have hB4 := ((J.out.bel.alloc hsz (.cells #[.int .i64 xa, .slice Ad xd.length cd] 60)).grown hCI.out.1 (by simp; omega) (fun _ e => by cases e)).setCell (p := ⟨G, xa.toNat, none⟩) (u := .slice A3 xd.length c3) hGb
              have bO4 := BO3.out.far (p := ⟨G, xa.toNat, none⟩) nG (.slice A3 xd.length c3)
              have bR4 := ((J.out.out.alloc (.cells #[.int .i64 xa, .slice Ad xd.length cd] 60)).grown hCI.out.1 (by simp)).far (p := ⟨G, xa.toNat, none⟩) nGR (.slice A3 xd.length c3)
              have hw := HW.out
              rw [if_pos hpos] at hw
              have hI' := J.out.step (d' := ⟨sk.set xa.toNat xd, lk - 1, tk, false, wrap64 (nk + 1)⟩) X.out hw (by simpa using (bO4.set_ 4 (.int .i64 (wrap64 (nk + 1)))).set_ 1 (.int .i64 (lk - 1))) ((hO4.setCell (p := ⟨w1.heap.size, 4, none⟩) bO4 (by decide) (by decide) (.int .i64 (wrap64 (nk + 1)))).setCell (p := ⟨w1.heap.size, 1, none⟩) (bO4.set_ 4 (.int .i64 (wrap64 (nk + 1)))) (by decide) (by decide) (.int .i64 (lk - 1))) ((hB4.setCell (p := ⟨w1.heap.size, 4, none⟩) (by simp; omega) _).setCell (p := ⟨w1.heap.size, 1, none⟩) (by simp; omega) _) ((bR4.far (p := ⟨w1.heap.size, 4, none⟩) nRO _).far (p := ⟨w1.heap.size, 1, none⟩) nRO _)
              go_roundw
              case rel => exact ⟨k + 1, _, _, by omega, by go_num, hI'⟩
              case measure => simp [intOf]; omega
            · have hneg : lk ≤ 0 := by omega
              go_wp2
              go_region_held3 (fun w' => w'.cell? ⟨w1.heap.size, 0, none⟩ = some (.slice (some ⟨G, 0, none⟩) ss.length c1) ∧ w'.cell? ⟨wr.heap.size, 0, none⟩ = some (.int .i64 xa) ∧ w'.cell? ⟨wr.heap.size, 1, none⟩ = some (.slice Ad xd.length cd))
                (first | go_keep | (go_split_ands; exact ⟨far_cell (cO3 0) nG, far_cell (cW3 0) nG2, far_cell (cW3 1) nG2⟩) | (go_split_ands; exact ⟨cO3 0, cW3 0, cW3 1⟩))
                ((refine step_append_any _ (by rfl) (.tmp 81) (.tmp 83) 25 (by rfl) (w.heap.size + 2) 5 i2 (.int .u8 0) 1 1 Tryd.underlying25 hi2 hz2 hs2 hb2 rfl (by omega) (.slice (some ⟨wr.heap.size + 1, 0, none⟩) 0 0) 0 [] (by rfl) HM.out w.heap.size Ad xd.length cd (bvs xd) (by rfl) HR.out (bvs_one xd) M1.out M2.out M3.out ?_; intro v1 w3 hown3 hgr3 hat3; simp only [Nat.zero_add, List.nil_append] at hown3; have hCI := Lib.hid (copy_in2 hgr3 hat3 (grown_drew (World.grownBy_alloc (wr.alloc (.cells #[.int .i64 xa, .slice Ad xd.length cd] 60)) _ none)) (by simp)); obtain ⟨A3, c3, rfl, q3, q4⟩ := own_form hown3; have bO3 := (J.out.box.alloc (.cells #[.int .i64 xa, .slice Ad xd.length cd] 60)).grown hCI.out.1 (by simp); have cO3 := bO3.cell; have bW3 := BW.out.grown hCI.out.1 (by simp); have cW3 := bW3.cell; have fO3 := bO3.frozen; have hO3 := (J.out.own.alloc (.cells #[.int .i64 xa, .slice Ad xd.length cd] 60)).grown0 hCI.out.1; have bG3 := (BG.out.alloc (.cells #[.int .i64 xa, .slice Ad xd.length cd] 60)).grown hCI.out.1 (by simp); have cG3 : w3.cell? ⟨G, xa.toNat, none⟩ = some v := (bG3.cell _).trans ((BG.out.cell _).symm.trans hcv); have fG3 := bG3.frozen xa.toNat; have HO3 := Lib.hid hO3; have BO3 := Lib.hid bO3; have HN3 := Lib.hid hown3; clear hO3 bO3 bW3 bG3 hgr3 hat3 hown3))
              go_wp2
              have hO4 := HO3.out.setOuter (i := xa.toNat) (v' := .slice A3 xd.length c3) (l' := xd) (by have := J.out.len; dsimp only at this ⊢; omega) HN3.out ((J.out.own.alloc (.cells #[.int .i64 xa, .slice Ad xd.length cd] 60)).fresh hCI.out.2)
              have hB4 := ((J.out.bel.alloc hsz (.cells #[.int .i64 xa, .slice Ad xd.length cd] 60)).grown hCI.out.1 (by simp; omega) (fun _ e => by cases e)).setCell (p := ⟨G, xa.toNat, none⟩) (u := .slice A3 xd.length c3) hGb
              have bO4 := BO3.out.far (p := ⟨G, xa.toNat, none⟩) nG (.slice A3 xd.length c3)
              have bR4 := ((J.out.out.alloc (.cells #[.int .i64 xa, .slice Ad xd.length cd] 60)).grown hCI.out.1 (by simp)).far (p := ⟨G, xa.toNat, none⟩) nGR (.slice A3 xd.length c3)
              have hw := HW.out
              rw [if_neg (by omega)] at hw
              have hI' := J.out.step (d' := ⟨sk.set xa.toNat xd, lk, tk, false, wrap64 (nk + 1)⟩) X.out hw (by simpa using bO4.set_ 4 (.int .i64 (wrap64 (nk + 1)))) (hO4.setCell (p := ⟨w1.heap.size, 4, none⟩) bO4 (by decide) (by decide) (.int .i64 (wrap64 (nk + 1)))) (hB4.setCell (p := ⟨w1.heap.size, 4, none⟩) (by simp; omega) _) (bR4.far (p := ⟨w1.heap.size, 4, none⟩) nRO _)
              go_roundw
              case rel => exact ⟨k + 1, _, _, by omega, by go_num, hI'⟩
              case measure => simp [intOf]; omega
        · have hw : wrD ⟨sk, lk, tk, true, nk⟩ (xa, xd) = (⟨sk, lk, tk, true, nk⟩, 170) := by simp [wrD, HB.out]
          have hr := J.out.now X.out hw (by decide)
          have HRr := Lib.hid hr
          clear hw hr
          go_wp2
          refine bodyPost_ret (v := .tuple #[dv A1 ss.length c1 lk tk true nk, .int .i64 170]) (by simp [results, Tryd.results44, go_sem, cRa]) rfl ?_
          exact do_close HRr.out J.out.len ((J.out.own.alloc _).less (by omega)) (J.out.bel.alloc hsz _) (J.out.out.alloc _) (by omega)
      · have hw : wrD dk (xa, xd) = (dk, 1) := by simp [wrD, hbad]
        have hr := J.out.now X.out hw (by decide)
        have HRr := Lib.hid hr
        simp only [badW, Bool.or_eq_true, decide_eq_true_eq, ne_eq] at hbad
        rw [J.out.len] at hbad
        have hbad' : xa < 0 ∨ (0 ≤ xa ∧ (ss.length : Int) ≤ xa) ∨ (0 ≤ xa ∧ xa < (ss.length : Int) ∧ ((xd.length : Int) != 64) = true) := by
          rcases hbad with (h | h) | h
          · omega
          · omega
          · have : ((xd.length : Int) != 64) = true := by rw [bne_iff_ne]; omega
            by_cases h1 : xa < 0
            · exact .inl h1
            · by_cases h2 : (ss.length : Int) ≤ xa
              · exact .inr (.inl ⟨by omega, h2⟩)
              · exact .inr (.inr ⟨by omega, by omega, this⟩)
        clear hw hr hbad
        rcases hbad' with h | ⟨h, h'⟩ | ⟨h, h', h''⟩
        all_goals
          go_wp2
          refine bodyPost_ret (v := .tuple #[dv A1 ss.length c1 dk.left dk.torn dk.off dk.done, .int .i64 1]) (by simp [results, Tryd.results44, go_sem, cRa]) rfl ?_
          exact do_close HRr.out J.out.len ((J.out.own.alloc _).less (by omega)) (J.out.bel.alloc hsz _) (J.out.out.alloc _) (by omega)
    · obtain rfl : k = nl := by omega
      clear hJ
      go_wp2
      refine bodyPost_ret (v := .tuple #[dv A1 ss.length c1 dk.left dk.torn dk.off dk.done, .int .i64 0]) (by simp [results, Tryd.results44, go_sem, cR]) rfl ?_
      exact do_close (J.out.res.trans (by rw [List.drop_of_length_le (by rw [Hl.out.1]; exact Nat.le_refl _)]; rfl)) J.out.len (J.out.own.less (by omega)) J.out.bel J.out.out (by omega)
theorem rdo_any (A : Option Addr) (c : Nat) (d : Dsk) (Al : Option Addr) (nl cl : Nat) (l : List Wr) (w : World) (hd : Bss w w.heap.size A d.secs.length d.secs) (hs : Sm d.secs) (hl : Wrs w w.heap.size Al nl l) (hcl : nl ≤ 10000) (hli : d.left ≤ 9223372036854775807) :
    Calls Tryd.prog 44 #[dvD A c d, .slice Al nl cl] w (DRet w (doD d l).1 fun v => .tuple #[v, .int .i64 (doD d l).2]) := by
  cases hck : checkB d.secs
  · exact rdo_bad A c d Al nl cl l w hd hs hck
  · exact rdo_good A c d Al nl cl l w hd hs hck hl hcl hli
end Go.Proofs.YtgeofnemlijbgaaDoor
