/- vault.headOf. -/
import Derived.Test.YtgeofnemlijbgaaDoorV2
import Derived.Deep.DeepCutAuto
namespace Go.Proofs.YtgeofnemlijbgaaDoor
open Go.RowKit
set_option linter.unusedVariables false

/-- The head of a number, and a length. -/
def headL (n m : Nat) : List UInt8 := [1] ++ be8 n ++ be8 m ++ zeros 46 ++ [1]
theorem headL_len (n m : Nat) : (headL n m).length = 64 := by simp [headL, be8_len, zeros_length]
theorem rd_bel1 {w : World} {A : Option Addr} {n : Nat} {xs : List Value} {o : Obj} (h : Rd w w.heap.size A n xs) : Rd (w.alloc o) w.heap.size A n xs := h.below (below_one w o)
theorem own_cell {w : World} {base g n cap j : Nat} {xs : List Value} (h : w.ownsRow base 5 1 (.slice (some ⟨g, 0, none⟩) n cap) n xs) (hj : j < n) : ∃ u, xs[j]? = some u ∧ w.cell? ⟨g, j, none⟩ = some u ∧ w.frozen? ⟨g, j, none⟩ = false := by
  obtain ⟨ad, u, e, _, hu, hc⟩ := (own_rd h).at_ hj
  injection e with e
  subst e
  rw [Addr.add_lit, Nat.zero_add] at hc
  obtain ⟨cur, hb, _⟩ := own_block h (by simp [Value.ownBlock] : _ = some g)
  exact ⟨u, hu, hc, (show Blk w g 5 cur from hb).frozen j⟩
theorem head_close (b : List UInt8) (hb : b.length = 17) : ((bvs b).take 64 ++ (bvs (zeros 64)).drop 17).set 63 (.int .u8 1) = bvs (b ++ zeros 46 ++ [1]) := by
  have hl : (bvs b).length = 17 := by rw [bvs_length, hb]
  have hz : (bvs (zeros 64)).drop 17 = bvs (zeros 46) ++ [.int .u8 0] := by kernel_rfl
  have hz2 : (bvs (zeros 46)).length = 46 := by rw [bvs_length, zeros_length]
  rw [List.take_of_length_le (by omega), hz, ← List.append_assoc, List.set_append_right _ _ (by rw [List.length_append]; omega), bvs_append, bvs_append, List.length_append, hl, hz2]
  rfl
theorem run_make1 (w : World) : (Instr.makeSlice 25 (.int .i64 1) (.int .i64 64)).run Tryd.prog w = .ok (.slice (some ⟨w.heap.size, 0, none⟩) 1 64) (w.alloc (.cells z64 5)) := by
  obtain ⟨i2, hi2, hz2, hs2, hb2⟩ := info_parts infoTB
  have h := run_make (P := Tryd.prog) w 25 5 i2 (.int .u8 0) Tryd.underlying25 hi2 hz2 .i64 .i64 1 64 (by omega) (by omega) (by rw [hb2]; decide) (by omega)
  rw [hs2] at h
  exact h
theorem z64_at : z64[0]? = some (.int .u8 0) := by kernel_rfl

set_option maxRecDepth 100000 in
set_option maxHeartbeats 2000000 in
theorem head_any (n m : Nat) (w : World) (hn : n < 9223372036854775808) (hm : m < 9223372036854775808) :
    Calls Tryd.prog 42 #[.int .i64 (n : Int), .int .i64 (m : Int)] w (BRet w (headL n m) id) := by
  obtain ⟨i2, hi2, hz2, hs2, hb2⟩ := info_parts infoTB
  have hmk1 := run_make1
  have hmk := run_make64
  have bn := Blk.new w 5 z64
  have c0 : (w.alloc (.cells z64 5)).cell? ⟨w.heap.size, 0, none⟩ = some (.int .u8 0) := (bn.cell 0).trans z64_at
  have f0 := bn.frozen
  have bs := Blk.new w 5 (z64.setIfInBounds 0 (.int .u8 1))
  have hB0 : Below w.heap.size w (w.alloc (.cells (z64.setIfInBounds 0 (.int .u8 1)) 5)) := below_one w _
  have hR0 : Rd (w.alloc (.cells (z64.setIfInBounds 0 (.int .u8 1)) 5)) (w.alloc (.cells (z64.setIfInBounds 0 (.int .u8 1)) 5)).heap.size (some ⟨w.heap.size, 0, none⟩) 1 (bvs [1]) :=
    ⟨rfl, fun _ => ⟨_, rfl, bs.lt, fun j u hu => by
      have hj : j = 0 := by
        rcases Nat.eq_zero_or_pos j with h | h
        · exact h
        · rw [List.getElem?_eq_none (by simp [bvs]; omega)] at hu; cases hu
      subst hj
      rw [Addr.add_lit]
      have h1 : (z64.setIfInBounds 0 (.int .u8 1))[0]? = some (.int .u8 1) := by kernel_rfl
      have h2 : (bvs [1])[0]? = some (.int .u8 1) := by kernel_rfl
      rw [h2] at hu
      exact ((bs.cell 0).trans h1).trans hu⟩⟩
  have HR0 := Lib.hid hR0
  have HB0 := Lib.hid hB0
  clear bs hR0 hB0 bn
  go_enter Tryd.func42, Tryd.ntmps42
  go_upto_region 3 with (fail)
  generalize (w.alloc (.cells (z64.setIfInBounds 0 (.int .u8 1)) 5)) = W1 at HR0 HB0 ⊢
  have hsz := HB0.out.size
  clear c0 f0 hmk1
  have cn : (n : Int) % 18446744073709551616 = (n : Int) := by omega
  have cm : (m : Int) % 18446744073709551616 = (m : Int) := by omega
  go_upto_region 4 with (go_at_call 54; refine (put8_any (some ⟨w.heap.size, 0, none⟩) 64 [1] n _ HR0.out (by decide) (by omega)).mono ?_; rintro e w2 ⟨v2, rfl, hO2, hB2⟩)
  obtain ⟨A2, c2, rfl, _, _⟩ := own_form hO2
  have R2 := Lib.hid (own_rd hO2)
  have HB2 := Lib.hid (keepB hB2 HB0.out)
  clear hO2 hB2
  go_upto_region 5 with (go_at_call 54; refine (put8_any A2 c2 ([1] ++ be8 n) m _ R2.out (by simp [be8_len]) (by omega)).mono ?_; rintro e w3 ⟨v3, rfl, hO3, hB3⟩)
  obtain ⟨A3, c3, rfl, _, _⟩ := own_form hO3
  have hl17 : ([1] ++ be8 n ++ be8 m).length = 17 := by simp [be8_len]
  have O3 := Lib.hid hO3
  have HB3 := Lib.hid (keepB hB3 HB2.out)
  clear hO3 hB3
  have o4 := Lib.hid (own_z64 w3 w.heap.size HB3.out.size)
  have hB4 := bel_al (o := .cells z64 5) HB3.out
  have R4 := Lib.hid (rd_bel1 (own_rd O3.out) (o := .cells z64 5))
  have g4 : w.heap.size ≤ w3.heap.size := HB3.out.size
  go_upto_region 6 with (fail)
  obtain ⟨g, hg⟩ : ∃ g, g = w3.heap.size := ⟨_, rfl⟩
  rw [← hg] at o4 g4 ⊢
  generalize (w3.alloc (.cells z64 5)) = W4 at o4 hB4 R4 ⊢
  clear hmk hg
  go_upto_region 7 with ((with_reducible show wpList _ _ _ (⟨some 27, _, _, _, _, _⟩ :: _) _ _); refine wpList_copy_any _ rfl (.tmp 25) (.tmp 26) 25 25 rfl w.heap.size 5 Tryd.underlying25 sizeTB (.slice (some ⟨g, 0, none⟩) 64 64) 64 (bvs (zeros 64)) rfl o4.out _ A3 _ c3 (bvs ([1] ++ be8 n ++ be8 m)) rfl R4.out (bvs_one _) ?_; intro kk w5 hown5 hgr5)
  have hB5 := hB4.grown hgr5 hB4.size (fun k e => by obtain ⟨_, _, h, _⟩ := own_block o4.out e; omega)
  obtain ⟨u, hu, cu, fu⟩ := own_cell hown5 (j := 63) (by omega)
  obtain ⟨hown6, hgr6⟩ := hown5.stored 63 (.int .u8 1)
  have hB6 := hB5.grown hgr6 hB5.size (fun k e => by injection e with e; subst e; exact g4)
  rw [hl17, head_close _ hl17] at hown6
  go_wp2
  go_ret
  exact ⟨_, rfl, by rw [headL_len]; exact hown6, hB6⟩
end Go.Proofs.YtgeofnemlijbgaaDoor
