/- octet.Put at eight bytes. -/
import Derived.Test.YtgeofnemlijbgaaDoorD6
import Derived.Test.YtgeofnemlijbgaaDoorV1
namespace Go.Proofs.YtgeofnemlijbgaaDoor
open Go.RowKit
set_option linter.unusedVariables false

theorem sized8_any (w : World) : Calls Tryd.prog 66 #[.int .i64 8] w fun e w' => e = .returned (.bool true) ∧ w' = w := by
  go_enter Tryd.func66, Tryd.ntmps66
  go_wp2
  go_ret
  exact ⟨rfl, rfl⟩
/-- The j-th of eight bytes, the highest first. -/
def be8at (n j : Nat) : UInt8 := UInt8.ofNat (n / 256 ^ (7 - j))
/-- A number in eight bytes, the highest first. -/
def be8 (n : Nat) : List UInt8 := (List.range 8).map (be8at n)
theorem be8_len (n : Nat) : (be8 n).length = 8 := by simp [be8]

theorem be8_at (n : Nat) {j : Nat} (hj : j < 8) : (be8 n).take (j + 1) = (be8 n).take j ++ [be8at n j] := by
  rw [List.take_add_one]
  have : (be8 n)[j]? = some (be8at n j) := by unfold be8; rw [List.getElem?_map, List.getElem?_range hj]; rfl
  rw [this]
  rfl
theorem be8_val (n j : Nat) : Value.int .u8 ((n : Int) / 2 ^ (8 * (7 - j)) % 256) = bv (be8at n j) := by
  unfold bv be8at
  have h : (UInt8.ofNat (n / 256 ^ (7 - j))).toNat = n / 256 ^ (7 - j) % 256 := by simp
  have hp : (2 : Int) ^ (8 * (7 - j)) = ((256 ^ (7 - j) : Nat) : Int) := by
    rw [show (256 : Nat) = 2 ^ 8 by decide, ← Nat.pow_mul]
    simp
  rw [h, hp]
  simp
theorem byte_one (a : Int) : ∀ u ∈ [Value.int .u8 a], u.oneCell' = true := by
  intro u hu
  simp at hu
  subst hu
  rfl
theorem put_own {w9 : World} {base n j m : Nat} {v9 : Value} {l : List UInt8} (hj : j < 8) (h : w9.ownsRow base 5 1 v9 (m + j + 1) (bvs (l ++ (be8 n).take j) ++ [.int .u8 ((n : Int) / 2 ^ (8 * (7 - j)) % 256)])) :
    w9.ownsRow base 5 1 v9 (m + (j + 1)) (bvs (l ++ (be8 n).take (j + 1))) := by
  rw [be8_at n hj, ← List.append_assoc, bvs_append, ← Nat.add_assoc]
  rw [be8_val] at h
  exact h

set_option maxRecDepth 100000 in
set_option maxHeartbeats 1000000 in
theorem put8_any (A : Option Addr) (c : Nat) (l : List UInt8) (n : Nat) (w : World) (hL : Rd w w.heap.size A l.length (bvs l)) (hl : l.length ≤ 1000) (hn : n < 18446744073709551616) :
    Calls Tryd.prog 54 #[.slice A l.length c, .int .u64 (n : Int), .int .i64 8] w (BRet w (l ++ be8 n) fun v => .tuple #[v, .int .i64 0]) := by
  obtain ⟨i2, hi2, hz2, hs2, hb2⟩ := info_parts infoTB
  have HL := Lib.hid hL
  have HC := Lib.hid (show (l.length : Int) + 8 = ((l.length + 8 : Nat) : Int) by omega)
  have hq1 : i2.bytes * (l.length + 8) ≤ 281474976710656 := by rw [hb2]; omega
  have hq2 : l.length + 8 ≤ maxLen := by unfold maxLen; omega
  have M1 := Lib.hid (show 0 + l.length ≤ maxLen by unfold maxLen; omega)
  have M2 := Lib.hid (show (0 + l.length) * 1 ≤ 140737488355328 by omega)
  have hsz : w.heap.size ≤ w.heap.size := Nat.le_refl _
  clear hL
  go_enter Tryd.func54, Tryd.ntmps54
  go_wp2_with (first
    | (go_at_call 66; refine (sized8_any _).mono ?_; rintro e w1 ⟨rfl, rfl⟩)
    | (at_make; refine wpList_make_own _ rfl _ _ 25 rfl w1.heap.size 5 i2 (.int .u8 0) 1 Tryd.underlying25 hi2 hz2 hs2 .i64 .i64 _ (l.length + 8) rfl rfl HC.out hq1 hq2 hsz ?_; intro w2 hown2 hgr2; have hB2 := (Below.refl w1.heap.size w1).grown hgr2 hsz (fun _ e => by cases e))
    | (at_builtin; refine wpList_append_any _ rfl (.tmp 29) (.tmp 30) 25 rfl w1.heap.size 5 i2 (.int .u8 0) 1 1 Tryd.underlying25 hi2 hz2 hs2 hb2 rfl (by omega) (.slice (some ⟨w1.heap.size, 0, none⟩) 0 (l.length + 8)) 0 [] rfl hown2 w1.heap.size A l.length c (bvs l) rfl (by rw [Nat.mul_one]; exact HL.out.below hB2) (bvs_one l) M1.out M2.out hB2.size ?_; intro v3 w3 hown3 hgr3 hat3; simp only [Nat.zero_add, List.nil_append] at hown3; have hB3 := hB2.grown hgr3 hB2.size (fun k e => by obtain ⟨_, _, h, _⟩ := own_block hown2 e; omega)))
  go_loopw [8, 33] (fun v i wr => ∃ j : Nat, j ≤ 8 ∧ i = .int .i64 j ∧ wr.ownsRow w1.heap.size 5 1 v (l.length + j) (bvs (l ++ (be8 n).take j)) ∧ Below w1.heap.size w1 wr) (fun v i _ => 8 - (intOf i).toNat)
  case atStart => exact ⟨0, by omega, rfl, by simpa using hown3, hB3⟩
  case round =>
    obtain ⟨j, hj, rfl, hO, hB⟩ := hrel
    obtain ⟨A8, c8, rfl, e1, e2⟩ := own_form hO
    have JO := Lib.hid hO
    have JB := Lib.hid hB
    clear hO hB hown2 hgr2 hB2 hown3 hgr3 hat3 hB3
    by_cases hlt : j < 8
    · have hk : decide ((j : Int) < 8) = true := decide_eq_true (by omega)
      have hw1 : IntKind.i64.wrap (7 - (j : Int)) = 7 - (j : Int) := IntWalk.i64_in _ (by omega)
      have hw2 : IntKind.i64.wrap (8 * (7 - (j : Int))) = 8 * (7 - (j : Int)) := IntWalk.i64_in _ (by omega)
      have RD := Lib.hid (rd_new wr (.int .u8 ((n : Int) / 2 ^ (8 * (7 - j)) % 256)) 5)
      have O2 := Lib.hid (JO.out.alloc (.cells #[.int .u8 ((n : Int) / 2 ^ (8 * (7 - j)) % 256)] 5))
      have N1 := Lib.hid (show l.length + j + 1 ≤ maxLen by unfold maxLen; omega)
      have N2 := Lib.hid (show (l.length + j + 1) * 1 ≤ 140737488355328 by omega)
      have N3 := Lib.hid (show w1.heap.size ≤ (wr.alloc (.cells #[.int .u8 ((n : Int) / 2 ^ (8 * (7 - j)) % 256)] 5)).heap.size by have := JB.out.size; simp; omega)
      go_wp2_with (at_builtin; refine wpList_append_any _ rfl (.tmp 36) (.tmp 45) 25 rfl w1.heap.size 5 i2 (.int .u8 0) 1 1 Tryd.underlying25 hi2 hz2 hs2 hb2 rfl (by omega) (.slice A8 (l.length + j) c8) (l.length + j) (bvs (l ++ (be8 n).take j)) rfl O2.out _ (some ⟨wr.heap.size, 0, none⟩) 1 1 [.int .u8 ((n : Int) / 2 ^ (8 * (7 - j)) % 256)] rfl RD.out (byte_one _) N1.out N2.out N3.out ?_; intro v9 w9 hown9 hgr9 hat9)
      go_roundw
      case rel => exact ⟨j + 1, by omega, by go_num, put_own hlt hown9, ((JB.out.alloc JB.out.size _).grown hgr9 (by have := JB.out.size; simp; omega) (fun k e => by obtain ⟨_, _, h, _⟩ := own_block JO.out e; omega))⟩
      case measure => simp [intOf]; omega
    · obtain rfl : j = 8 := by omega
      go_wp2
      go_ret2
      have h8 : (be8 n).take 8 = be8 n := List.take_of_length_le (by rw [be8_len]; exact Nat.le_refl _)
      have hO := JO.out
      rw [h8] at hO
      exact ⟨_, rfl, by rw [List.length_append, be8_len]; exact hO, JB.out⟩
end Go.Proofs.YtgeofnemlijbgaaDoor
