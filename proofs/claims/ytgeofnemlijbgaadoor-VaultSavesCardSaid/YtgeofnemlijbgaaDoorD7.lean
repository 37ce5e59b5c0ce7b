/- disk.New. -/
import Derived.Test.YtgeofnemlijbgaaDoorD2
import Derived.Test.YtgeofnemlijbgaaDoorPlain
import Derived.Deep.RegionHeld3
import Derived.Deep.DrawnRows
namespace Go.Proofs.YtgeofnemlijbgaaDoor
open Go.RowKit
set_option linter.unusedVariables false

def newD (n : Int) : Dsk × Int := if n < 4 ∨ 2048 < n then (⟨[], 0, 0, false, 0⟩, 1) else (⟨List.replicate n.toNat (zeros 64), -1, 0, false, 0⟩, 0)
def z64 : Array Value := madeCells #[.int .u8 0] 64
theorem run_make64 (w : World) : (Instr.makeSlice 25 (.int .i64 64) (.int .i64 64)).run Tryd.prog w = .ok (.slice (some ⟨w.heap.size, 0, none⟩) 64 64) (w.alloc (.cells z64 5)) := by
  obtain ⟨i2, hi2, hz2, hs2, hb2⟩ := info_parts infoTB
  have h := run_make (P := Tryd.prog) w 25 5 i2 (.int .u8 0) Tryd.underlying25 hi2 hz2 .i64 .i64 64 64 (by omega) (by omega) (by rw [hb2]; decide) (by omega)
  rw [hs2] at h
  exact h
theorem own_z64 (w : World) (base : Nat) (hb : base ≤ w.heap.size) : (w.alloc (.cells z64 5)).ownsRow base 5 1 (.slice (some ⟨w.heap.size, 0, none⟩) 64 64) (zeros 64).length (bvs (zeros 64)) := by
  have h := World.ownsRow_lit (e := 5) (size := 1) w z64 64 hb (by unfold maxLen; omega) (by rw [z64, size_madeCells])
  have e : z64.toList = bvs (zeros 64) := made_zeros 64
  rw [e] at h
  exact h

set_option maxHeartbeats 400000 in
theorem new_bad (n : Int) (w : World) (hx : n < 4 ∨ 2048 < n) :
    Calls Tryd.prog 16 #[.int .i64 n] w (DRet w (newD n).1 fun v => .tuple #[v, .int .i64 (newD n).2]) := by
  have hr : newD n = (⟨[], 0, 0, false, 0⟩, 1) := by simp [newD, hx]
  rw [hr]
  clear hr
  rcases hx with hx | hx
  all_goals
    go_enter Tryd.func16, Tryd.ntmps16
    go_wp2
    refine bodyPost_ret (v := .tuple #[dv none 0 0 0 0 false 0, .int .i64 1]) (by simp [results, Tryd.results16, go_sem]) rfl ?_
    exact ⟨none, 0, [], rfl, OwnS.nil_ _ _, below_one w _⟩

abbrev rz (n k : Nat) : List (List UInt8) := List.replicate k (zeros 64) ++ List.replicate (n - k) []
theorem rz_set (n k : Nat) (hk : k < n) : (rz n k).set k (zeros 64) = rz n (k + 1) := by
  unfold rz
  rw [List.set_append_right _ _ (by simp), List.length_replicate, Nat.sub_self]
  obtain ⟨m, hm⟩ : ∃ m, n - k = m + 1 := ⟨n - k - 1, by omega⟩
  rw [hm, List.replicate_succ, List.set_cons_zero, show n - (k + 1) = m from by omega, List.replicate_succ']
  simp
theorem rz_length (n k : Nat) (hk : k ≤ n) : (rz n k).length = n := by simp [rz]; omega
/-- A round of New. -/
theorem new_step {wr : World} {base G n k : Nat} {vs : List Value} (hO : OwnS wr base (.slice (some ⟨G, 0, none⟩) n n) vs (rz n k)) (hk : k < n) (hbase : base ≤ wr.heap.size) :
    ∃ vs', OwnS ((wr.setCell ⟨G, k, none⟩ (.slice (some ⟨wr.heap.size, 0, none⟩) 64 64)).alloc (.cells z64 5)) base (.slice (some ⟨G, 0, none⟩) n n) vs' (rz n (k + 1)) := by
  have h := (hO.alloc (.cells z64 5)).setOuter (i := k) (by rw [rz_length n k (by omega)]; exact hk) (own_z64 wr base hbase) (hO.fresh (fun g e => by injection (show some wr.heap.size = some g from e) with e; omega))
  rw [rz_set n k hk] at h
  obtain ⟨_, _, _, hlt⟩ := own_block hO.outer (g := G) rfl
  rw [World.setCell_alloc_past _ _ _ _ hlt] at h
  exact ⟨_, h⟩

set_option maxRecDepth 100000 in
set_option maxHeartbeats 1000000 in
theorem new_good (n : Nat) (w : World) (h4 : 4 ≤ n) (h5 : n ≤ 2048) :
    Calls Tryd.prog 16 #[.int .i64 (n : Int)] w (DRet w (newD n).1 fun v => .tuple #[v, .int .i64 (newD n).2]) := by
  obtain ⟨i1, hi1, hz1, hs1, hb1⟩ := info_parts infoTS
  have hr : newD n = (⟨List.replicate n (zeros 64), -1, 0, false, 0⟩, 0) := by
    have : ¬ ((n : Int) < 4 ∨ 2048 < (n : Int)) := by omega
    simp [newD, this]
  rw [hr]
  have hq1 : i1.bytes * n ≤ 281474976710656 := by rw [hb1]; omega
  have hq2 : n ≤ maxLen := by unfold maxLen; omega
  have hmk := run_make64
  have d1 : decide ((n : Int) < 4) = false := by simp; omega
  have d2 : decide (2048 < (n : Int)) = false := by simp; omega
  clear hr
  go_enter Tryd.func16, Tryd.ntmps16
  go_wp2_with (at_make; refine wpList_make_full _ rfl _ _ 22 rfl w.heap.size 25 i1 (.slice none 0 0) 1 Tryd.underlying22 hi1 hz1 hs1 .i64 .i64 _ _ n rfl rfl rfl rfl hq1 hq2 ?c1 ?_; rotate_left; intro w1 hown1 hgr1)
  case c1 => simp
  rw [made_nils] at hown1
  have hO1 := OwnS.nils hown1
  have b0 := (Blk.new w _ _).grown hgr1 (by simp)
  have hB1 := (below_one w _).grown hgr1 (by simp) (fun _ e => by cases e)
  have hne : w.heap.size < w1.heap.size := b0.lt
  have hne2 : w.heap.size + 1 < w1.heap.size := by obtain ⟨_, _, _, h⟩ := own_block hown1 (g := w.heap.size + 1) (by simp [Value.ownBlock]); exact h
  have hO2 := hO1.alloc (.cells #[.slice (some ⟨w.heap.size + 1, 0, none⟩) n n, .int .i64 (-1), .int .i64 0, .bool false, .int .i64 0] 24)
  have hJ : OwnS (w1.alloc (.cells #[.slice (some ⟨w.heap.size + 1, 0, none⟩) n n, .int .i64 (-1), .int .i64 0, .bool false, .int .i64 0] 24)) w.heap.size (.slice (some ⟨w.heap.size + 1, 0, none⟩) n n) (List.replicate n (.slice none 0 0)) (rz n 0) := by simpa [rz] using hO2
  have hB2 := hB1.alloc hB1.size (.cells #[.slice (some ⟨w.heap.size + 1, 0, none⟩) n n, .int .i64 (-1), .int .i64 0, .bool false, .int .i64 0] 24)
  have b1 := b0.alloc (.cells #[.slice (some ⟨w.heap.size + 1, 0, none⟩) n n, .int .i64 (-1), .int .i64 0, .bool false, .int .i64 0] 24)
  have b2 := Blk.new w1 24 #[.slice (some ⟨w.heap.size + 1, 0, none⟩) n n, .int .i64 (-1), .int .i64 0, .bool false, .int .i64 0]
  clear hown1 hgr1 hO1 hO2 b0 hB1
  go_loopw [19] (fun i wr => ∃ (k : Nat) (vs : List Value), k ≤ n ∧ i = .int .i64 k ∧ OwnS wr w.heap.size (.slice (some ⟨w.heap.size + 1, 0, none⟩) n n) vs (rz n k) ∧ Below w.heap.size w wr ∧ Blk wr w.heap.size 24 #[.slice none 0 0, .int .i64 0, .int .i64 0, .bool false, .int .i64 0] ∧ Blk wr w1.heap.size 24 #[.slice (some ⟨w.heap.size + 1, 0, none⟩) n n, .int .i64 (-1), .int .i64 0, .bool false, .int .i64 0]) (fun i _ => n - (intOf i).toNat)
  case atStart => exact ⟨0, _, Nat.zero_le _, rfl, hJ, hB2, b1, b2⟩
  case round =>
    obtain ⟨k, vs, hk, rfl, hO, hB, r1, r2⟩ := hrel
    have n1 : ¬ w1.heap.size = w.heap.size + 1 := by omega
    have n2 : ¬ w.heap.size + 1 = w1.heap.size := by omega
    clear hJ hB2 b1 b2
    have J := Lib.hid hO
    have B1 := Lib.hid r1
    have B2 := Lib.hid r2
    have c2 := r2.cell
    have c2a := fun o => (r2.alloc o).cell
    by_cases hlt : k < n
    · obtain ⟨G, cap, v, l, hV, j1, j2, j3, hGl, hv, j4, hcv, hfv, j5⟩ := hO.at_ (i := k) (by rw [rz_length n k hk]; exact hlt)
      simp only [Value.slice.injEq, Option.some.injEq, Addr.mk.injEq, and_true] at hV
      obtain ⟨e1, e2⟩ := hV
      rw [← e1] at hcv hfv hGl
      clear e2 j1 j2 j3 j4 j5
      have hcva := fun o => (World.cell?_alloc_lt wr o ⟨w.heap.size + 1, k, none⟩ hGl).trans hcv
      obtain ⟨curG, bG⟩ := J.out.blk rfl
      have hfva := fun o => (bG.alloc o).frozen k
      have hk0 : (0 : Int) ≤ (k : Int) := by omega
      have hk1 : (k : Int) < (n : Int) := by omega
      have hsz := hB.size
      clear hO r1 r2 hv e1 bG
      go_wp2
      go_region_held3 (fun w' => w'.cell? ⟨w1.heap.size, 0, none⟩ = some (.slice (some ⟨w.heap.size + 1, 0, none⟩) n n)) (first | go_keep) (fail)
      go_wp2
      obtain ⟨vs', hJ'⟩ := new_step J.out hlt hsz
      go_roundw
      case rel =>
        refine ⟨k + 1, vs', by omega, by go_num, hJ'.drew, ((hB.setCell (p := ⟨w.heap.size + 1, k, none⟩) (by simp) _).alloc (by simpa [World.setCell] using hsz) _).drew, ?_, ?_⟩
        · exact (((B1.out.far (p := ⟨w.heap.size + 1, k, none⟩) (by simp) _).alloc _).drew)
        · exact (((B2.out.far (p := ⟨w.heap.size + 1, k, none⟩) n1 _).alloc _).drew)
      case measure => simp [intOf]; omega
    · obtain rfl : k = n := by omega
      have c1 := r1.cell
      have f1 := r1.frozen
      clear hO r1 r2
      go_wp2
      refine bodyPost_ret (v := .tuple #[dv (some ⟨w.heap.size + 1, 0, none⟩) k k (-1) 0 false 0, .int .i64 0]) (by simp [results, Tryd.results16, go_sem, c1]) rfl ?_
      have O := J.out
      unfold rz at O
      rw [Nat.sub_self, List.replicate_zero, List.append_nil] at O
      have e : k = (List.replicate k (zeros 64)).length := by simp
      have := dret_fin (w := w) (ss := List.replicate k (zeros 64)) (A := some ⟨w.heap.size + 1, 0, none⟩) (c := k) (fun v => .tuple #[v, .int .i64 0]) (-1) 0 false 0 (by simpa using O) (Nat.le_refl _) hB B1.out (Nat.le_refl _)
      simpa using this
theorem new_any (n : Int) (w : World) : Calls Tryd.prog 16 #[.int .i64 n] w (DRet w (newD n).1 fun v => .tuple #[v, .int .i64 (newD n).2]) := by
  by_cases hx : n < 4 ∨ 2048 < n
  · exact new_bad n w hx
  · obtain ⟨k, rfl⟩ := Int.eq_ofNat_of_zero_le (show 0 ≤ n by omega)
    exact new_good k w (by omega) (by omega)
end Go.Proofs.YtgeofnemlijbgaaDoor
