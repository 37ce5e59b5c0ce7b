/- disk.clone, disk.New. -/
import Derived.Test.YtgeofnemlijbgaaDoorD0
import Derived.Test.YtgeofnemlijbgaaDoorOwn
import Derived.Deep.DrawnRows
namespace Go.Proofs.YtgeofnemlijbgaaDoor
open Go.RowKit
set_option linter.unusedVariables false

def Sm (ss : List (List UInt8)) : Prop := ss.length ≤ 2048 ∧ ∀ (i : Nat) (l : List UInt8), ss[i]? = some l → l.length ≤ 100
abbrev dvD (A : Option Addr) (c : Nat) (d : Dsk) : Value := dv A d.secs.length c d.left d.torn d.off d.done
/-- A call hands back a disk in memory of its own. -/
def DRet (w : World) (d : Dsk) (f : Value → Value) (e : Ending) (w' : World) : Prop :=
  ∃ A c vs, e = .returned (f (dvD A c d)) ∧ OwnS w' w.heap.size (.slice A d.secs.length c) vs d.secs ∧ Below w.heap.size w w'

theorem infoTS : (Tryd.prog.info? 25).map (fun i => (i.zero, i.size, i.bytes)) = some (some (.slice none 0 0), 1, 24) := by kernel_rfl
theorem infoTB : (Tryd.prog.info? 5).map (fun i => (i.zero, i.size, i.bytes)) = some (some (.int .u8 0), 1, 1) := by kernel_rfl

theorem below_one (w : World) (o : Obj) : Below w.heap.size w (w.alloc o) := (Below.refl _ w).alloc (Nat.le_refl _) _
theorem below_two (w : World) (o o' : Obj) : Below w.heap.size w ((w.alloc o).alloc o') := (below_one w o).alloc (by simp) _
theorem bss_one {w : World} {A : Option Addr} {n B : Nat} {ss : List (List UInt8)} (h : Bss w w.heap.size A n ss) (o : Obj) (hB : w.heap.size ≤ B) : Bss (w.alloc o) B A n ss := (h.below (below_one w o)).more hB
theorem bss_two {w : World} {A : Option Addr} {n B : Nat} {ss : List (List UInt8)} (h : Bss w w.heap.size A n ss) (o o' : Obj) (hB : w.heap.size ≤ B) : Bss ((w.alloc o).alloc o') B A n ss := (h.below (below_two w o o')).more hB
theorem bss_after {w w' : World} {A : Option Addr} {n : Nat} {ss : List (List UInt8)} (h : Bss w w.heap.size A n ss) (hb : Below w.heap.size w w') : Bss w' w'.heap.size A n ss := (h.below hb).more hb.size
theorem two_boxes {w w1 : World} {cs cs' : Array Value} {t t' : TypeId} {row : Option Nat} (h : ((w.alloc (.cells cs t)).alloc (.cells cs' t')).grownBy w1 row) (hr : ∀ g, row = some g → w.heap.size + 2 ≤ g) :
    Blk w1 w.heap.size t cs ∧ Blk w1 (w.heap.size + 1) t' cs' ∧ Below w.heap.size w w1 := by
  have h1 := (Blk.new w t cs).alloc (.cells cs' t')
  have h2 : Blk ((w.alloc (.cells cs t)).alloc (.cells cs' t')) (w.heap.size + 1) t' cs' := by simpa using Blk.new (w.alloc (.cells cs t)) t' cs'
  exact ⟨h1.grown h (fun e => by have := hr _ e.symm; omega), h2.grown h (fun e => by have := hr _ e.symm; omega), (((Below.refl _ w).alloc (Nat.le_refl _) _).alloc (by simp) _).grown h (by simp; omega) (fun g e => by have := hr g e; omega)⟩

theorem bvs_take (l : List UInt8) (n : Nat) : (bvs l).take n = bvs (l.take n) := by simp [bvs, List.map_take]
theorem bvs_drop (l : List UInt8) (n : Nat) : (bvs l).drop n = bvs (l.drop n) := by simp [bvs, List.map_drop]
theorem bvs_append (l m : List UInt8) : bvs (l ++ m) = bvs l ++ bvs m := by simp [bvs]
theorem Rd.take {w : World} {B n : Nat} {A : Option Addr} {xs : List Value} (h : Rd w B A n xs) (t : Nat) (ht : t ≤ n) : Rd w B A t (xs.take t) := by
  refine ⟨by rw [List.length_take, h.1]; omega, fun hp => ?_⟩
  obtain ⟨ad, e, hb, hc⟩ := h.2 (by omega)
  exact ⟨ad, e, hb, fun j u hu => hc j u (by
    rw [List.getElem?_take] at hu; split at hu
    · exact hu
    · cases hu)⟩

theorem sizeTB : (Tryd.prog.info? 5).map (·.size) = some 1 := by kernel_rfl
def zeros (n : Nat) : List UInt8 := List.replicate n 0
theorem zeros_length (n : Nat) : (zeros n).length = n := by simp [zeros]
theorem made_zeros (n : Nat) : (madeCells (Value.int .u8 0).cells (n * 1)).toList = bvs (zeros n) := by
  show (madeCells #[Value.int .u8 0] (n * 1)).toList = _
  rw [toList_madeCells_one]
  simp [bvs, zeros, bv]
theorem made_nils (n : Nat) : (madeCells (Value.slice none 0 0).cells (n * 1)).toList = List.replicate n (.slice none 0 0) := by
  show (madeCells #[Value.slice none 0 0] (n * 1)).toList = _
  rw [toList_madeCells_one, Nat.mul_one]
theorem own_made {w : World} {base n : Nat} {v : Value} (h : w.ownsRow base 5 1 v n (madeCells (Value.int .u8 0).cells (n * 1)).toList) : w.ownsRow base 5 1 v (zeros n).length (bvs (zeros n)) := by
  rw [made_zeros] at h
  rw [zeros_length]
  exact h

theorem take_set {α : Type} (ss : List α) (y z : α) (k n : Nat) (hn : n = ss.length) (hk : k < n) : (ss.take k ++ List.replicate (n - k) z).set k y = ss.take k ++ y :: List.replicate (n - (k + 1)) z := by
  have hl : (ss.take k).length = k := by rw [List.length_take]; omega
  rw [List.set_append_right _ _ (by omega), hl, Nat.sub_self]
  obtain ⟨m, hm⟩ : ∃ m, n - k = m + 1 := ⟨n - k - 1, by omega⟩
  rw [hm, List.replicate_succ, List.set_cons_zero, show n - (k + 1) = m from by omega]
theorem take_set2 {α : Type} (ss R : List α) (x y : α) (k : Nat) (hx : ss[k]? = some x) : (ss.take k ++ y :: R).set k x = ss.take (k + 1) ++ R := by
  have hk := (List.getElem?_eq_some_iff.1 hx).1
  have hl : (ss.take k).length = k := by rw [List.length_take]; omega
  rw [List.set_append_right _ _ (by omega), hl, Nat.sub_self, List.set_cons_zero, List.take_add_one, hx]
  simp

theorem clone_made {w w2 : World} {base G n k : Nat} {vs : List Value} {ss : List (List UInt8)} {l : List UInt8} (hO : OwnS w base (.slice (some ⟨G, 0, none⟩) n n) vs (ss.take k ++ List.replicate (n - k) [])) (hl : ss[k]? = some l) (hn : n = ss.length)
    (ho : w2.ownsRow base 5 1 (.slice (some ⟨w.heap.size, 0, none⟩) l.length l.length) l.length (madeCells (Value.int .u8 0).cells (l.length * 1)).toList) (hg : w.grownBy w2 none) :
    (∃ v, w2.cell? ⟨G, k, none⟩ = some v) ∧ w2.frozen? ⟨G, k, none⟩ = false ∧
    (vs.set k (.slice (some ⟨w.heap.size, 0, none⟩) l.length l.length))[k]? = some (.slice (some ⟨w.heap.size, 0, none⟩) l.length l.length) ∧
    OwnS (w2.setCell ⟨G, k, none⟩ (.slice (some ⟨w.heap.size, 0, none⟩) l.length l.length)) base (.slice (some ⟨G, 0, none⟩) n n) (vs.set k (.slice (some ⟨w.heap.size, 0, none⟩) l.length l.length)) (ss.take k ++ zeros l.length :: List.replicate (n - (k + 1)) []) ∧
    (w2.setCell ⟨G, k, none⟩ (.slice (some ⟨w.heap.size, 0, none⟩) l.length l.length)).ownsRow base 5 1 (.slice (some ⟨w.heap.size, 0, none⟩) l.length l.length) l.length (bvs (zeros l.length)) := by
  have hk : k < n := by have := (List.getElem?_eq_some_iff.1 hl).1; omega
  have hlen : (ss.take k ++ List.replicate (n - k) []).length = n := by simp; omega
  have hO2 := hO.grown0 hg
  have hvl := hO.len
  obtain ⟨G', cap, v, l0, hV, _, _, _, _, hv, _, hc, hf, _⟩ := hO2.at_ (i := k) (by omega)
  simp only [Value.slice.injEq, Option.some.injEq, Addr.mk.injEq, and_true] at hV
  obtain ⟨rfl, _⟩ := hV
  have ho' := own_made ho
  have hself : (vs.set k (.slice (some ⟨w.heap.size, 0, none⟩) l.length l.length))[k]? = some (.slice (some ⟨w.heap.size, 0, none⟩) l.length l.length) := List.getElem?_set_self (by omega)
  have hO3 := hO2.setOuter (i := k) (by omega) ho' (hO.fresh (fun g e => by simp [Value.ownBlock] at e; omega))
  rw [take_set ss (zeros l.length) [] k n hn hk] at hO3
  refine ⟨⟨v, hc⟩, hf, hself, hO3, ?_⟩
  obtain ⟨l1, h1, h2⟩ := hO3.inner k _ hself
  have : l1 = zeros l.length := by
    rw [List.getElem?_append_right (by rw [List.length_take]; omega), List.length_take, show k - min k ss.length = 0 from by omega] at h1
    simpa using h1.symm
  subst this
  rw [zeros_length] at h2
  exact h2

theorem clone_copied {w w4 : World} {base n k : Nat} {V v : Value} {vs : List Value} {ss : List (List UInt8)} {l : List UInt8} (hO : OwnS w base V vs (ss.take k ++ zeros l.length :: List.replicate (n - (k + 1)) [])) (hl : ss[k]? = some l)
    (hv : vs[k]? = some v) (ho : w4.ownsRow base 5 1 v l.length ((bvs l).take l.length ++ (bvs (zeros l.length)).drop l.length)) (hg : w.grownBy w4 v.ownBlock) : OwnS w4 base V vs (ss.take (k + 1) ++ List.replicate (n - (k + 1)) []) := by
  have e : (bvs l).take l.length ++ (bvs (zeros l.length)).drop l.length = bvs l := by
    rw [List.take_of_length_le (by simp [bvs]), List.drop_of_length_le (by simp [bvs, zeros]), List.append_nil]
  rw [e] at ho
  have := hO.setSec hv hg ho
  rw [take_set2 ss _ l _ k hl] at this
  exact this

set_option maxHeartbeats 400000 in
theorem clone_any (A : Option Addr) (c : Nat) (d : Dsk) (w : World) (hd : Bss w w.heap.size A d.secs.length d.secs) (hs : Sm d.secs) :
    Calls Tryd.prog 33 #[dvD A c d] w (DRet w d id) := by
  obtain ⟨i1, hi1, hz1, hs1, hb1⟩ := info_parts infoTS
  obtain ⟨i2, hi2, hz2, hs2, hb2⟩ := info_parts infoTB
  obtain ⟨ss, left, torn, off, done⟩ := d
  dsimp only at hd hs ⊢
  obtain ⟨n, hn⟩ : ∃ n, n = ss.length := ⟨_, rfl⟩
  have hn1 : n ≤ 2048 := by rw [hn]; exact hs.1
  have Hn := Lib.hid hn
  rw [dvD]
  simp only [← hn] at hd ⊢
  clear hn
  have Hs := Lib.hid hs
  clear hs
  have hq1 : i1.bytes * n ≤ 281474976710656 := by rw [hb1]; omega
  have hq2 : n ≤ maxLen := by unfold maxLen; omega
  go_enter Tryd.func33, Tryd.ntmps33
  go_wp2_with (at_make; refine wpList_make_full _ rfl _ _ 22 rfl w.heap.size 25 i1 (.slice none 0 0) 1 Tryd.underlying22 hi1 hz1 hs1 .i64 .i64 _ _ n rfl rfl rfl rfl hq1 hq2 ?c1 ?_; rotate_left; intro w1 hown1 hgr1; obtain ⟨b0, b1, hB1⟩ := two_boxes hgr1 (fun _ e => by cases e); have c0 := b0.cell; have c1 := b1.cell; have f0 := b0.frozen; have f1 := b1.frozen)
  case c1 => simp; omega
  rw [made_nils] at hown1
  have hO1 := OwnS.nils hown1
  clear hown1 hgr1
  go_loopw [13] (fun i wr => ∃ (k : Nat) (vs : List Value), k ≤ n ∧ i = .int .i64 k ∧ OwnS wr w.heap.size (.slice (some ⟨w.heap.size + 1 + 1, 0, none⟩) n n) vs (ss.take k ++ List.replicate (n - k) []) ∧ Below w.heap.size w wr ∧
      Blk wr w.heap.size 24 #[.slice A n c, .int .i64 left, .int .i64 torn, .bool off, .int .i64 done] ∧ Blk wr (w.heap.size + 1) 24 #[.slice none 0 0, .int .i64 0, .int .i64 0, .bool false, .int .i64 0]) (fun i _ => n - (intOf i).toNat)
  case atStart => exact ⟨0, _, Nat.zero_le _, rfl, by simpa using hO1, hB1, b0, b1⟩
  case round =>
    obtain ⟨k, vs, hk, rfl, hO, hB, b0, b1⟩ := hrel
    by_cases hlt : k < n
    · obtain ⟨ad, Ai, ci, l, rfl, hb, hl, hc, h1, h2, h3⟩ := hd.at_ hlt
      have hc' := (hB.cell (p := ad.add k) (by rw [block_of_add]; exact hb)).trans hc
      have hl100 : l.length ≤ 100 := Hs.out.2 k l hl
      have hq3 : i2.bytes * l.length ≤ 281474976710656 := by rw [hb2]; omega
      have hq4 : l.length ≤ maxLen := by unfold maxLen; omega
      have hq5 := hB.size
      have HL := Lib.hid hl
      have HR := Lib.hid h3
      have HO := Lib.hid hO
      unfold maxLen at h2
      have B0 := Lib.hid b0
      have B1 := Lib.hid b1
      clear h3 hl hc hO b0 b1
      go_wp2_with (first
        | (at_make; refine wpList_make_full _ rfl _ _ 25 rfl w.heap.size 5 i2 (.int .u8 0) 1 Tryd.underlying25 hi2 hz2 hs2 .i64 .i64 _ _ l.length rfl rfl rfl rfl hq3 hq4 hq5 ?_; intro w2 hown2 hgr2; obtain ⟨⟨v0, hcv⟩, hfv, hself, hO3, hown3⟩ := clone_made HO.out HL.out Hn.out hown2 hgr2; have HS := Lib.hid hself; clear hself)
        | ((with_reducible show wpList _ _ _ (⟨some 29, _, _, _, _, _⟩ :: _) _ _); refine wpList_copy_any _ rfl (.tmp 27) (.tmp 28) 25 25 rfl w.heap.size 5 Tryd.underlying25 sizeTB _ l.length _ rfl hown3 w.heap.size Ai l.length ci (bvs l) rfl ?_ (bvs_one l) ?_; rotate_left; intro kk w4 hown4 hgr4))
      · have hB3 := (hB.grown hgr2 hq5 (fun _ e => by cases e)).setCell (p := ⟨w.heap.size + 1 + 1, k, none⟩) (by simp; omega) (.slice (some ⟨wr.heap.size, 0, none⟩) l.length l.length)
        have z0 := B0.out.lt
        have z1 := B1.out.lt
        have hz := hgr2.size
        go_roundw
        case rel =>
          refine ⟨k + 1, _, by omega, by go_num, clone_copied hO3 HL.out HS.out hown4 hgr4, hB3.grown hgr4 (by simpa [World.setCell] using (by omega)) (fun g e => by injection (show some wr.heap.size = some g from e) with e; omega), ?_, ?_⟩
          · exact ((B0.out.grown hgr2 (by simp)).far (p := ⟨w.heap.size + 1 + 1, k, none⟩) (by simp; omega) _).grown hgr4 (fun e => by injection (show some w.heap.size = some wr.heap.size from e) with e; omega)
          · exact ((B1.out.grown hgr2 (by simp)).far (p := ⟨w.heap.size + 1 + 1, k, none⟩) (by simp) _).grown hgr4 (fun e => by injection (show some (w.heap.size + 1) = some wr.heap.size from e) with e; omega)
        case measure => simp [intOf]; omega
      · exact HR.out.below ((hB.grown hgr2 hq5 (fun _ e => by cases e)).setCell (p := ⟨w.heap.size + 1 + 1, k, none⟩) (by simp; omega) _)
    · obtain rfl : k = n := by omega
      have c0 := b0.cell
      have c1 := b1.cell
      have f0 := b0.frozen
      have f1 := b1.frozen
      have HO := Lib.hid hO
      have B0 := Lib.hid b0
      have B1 := Lib.hid b1
      clear hO b0 b1
      go_wp2
      refine bodyPost_ret (v := dv (some ⟨w.heap.size + 1 + 1, 0, none⟩) k k left torn off done) (by simp [results, Tryd.results33, go_sem, c1]) rfl ?_
      have O := HO.out
      rw [Nat.sub_self, List.replicate_zero, List.append_nil, List.take_of_length_le (by rw [← Hn.out]; exact Nat.le_refl _)] at O
      have O1 := O.setCell (p := ⟨w.heap.size, 0, none⟩) B0.out (by decide) (by decide) (.slice (some ⟨w.heap.size + 1 + 1, 0, none⟩) k k)
      have B1' := B1.out.far (p := ⟨w.heap.size, 0, none⟩) (by simp) (.slice (some ⟨w.heap.size + 1 + 1, 0, none⟩) k k)
      have O2 := O1.grownB (set5_grown _ (w.heap.size + 1) (.slice (some ⟨w.heap.size + 1 + 1, 0, none⟩) k k) (.int .i64 left) (.int .i64 torn) (.bool off) (.int .i64 done)) B1' (by decide) (by decide)
      have hB2 := (hB.setCell (p := ⟨w.heap.size, 0, none⟩) (Nat.le_refl _) (.slice (some ⟨w.heap.size + 1 + 1, 0, none⟩) k k)).grown (set5_grown _ (w.heap.size + 1) (.slice (some ⟨w.heap.size + 1 + 1, 0, none⟩) k k) (.int .i64 left) (.int .i64 torn) (.bool off) (.int .i64 done)) (by simpa [World.setCell] using hB.size) (fun g e => by injection e; omega)
      have hk' := Hn.out
      clear Hn
      subst hk'
      exact ⟨_, _, _, rfl, O2, hB2⟩
end Go.Proofs.YtgeofnemlijbgaaDoor
