/- The document's Put and Take at eight bytes; its Head. The document's Head. -/
import Derived.Test.YtgeofnemlijbgaaDoorV4
import Derived.Test.YtgeofnemlijbgaaDoorVE3
import Derived.Test.YtgeofnemlijbgaaDoorVH
namespace Go.Proofs.YtgeofnemlijbgaaDoor
open Go.RowKit
set_option linter.unusedVariables false
set_option linter.unusedSimpArgs false

/-- 'append([]byte{}, ..)': the empty row that stands first. -/
theorem own_empty (w : World) (base : Nat) (hb : base ≤ w.heap.size) : (w.alloc (.cells #[] 5)).ownsRow base 5 1 (.slice (some ⟨w.heap.size, 0, none⟩) 0 0) 0 [] := World.ownsRow_made w #[] 0 hb (Nat.zero_le _) rfl

set_option maxRecDepth 100000 in
set_option maxHeartbeats 1000000 in
theorem rput8_any (A : Option Addr) (c : Nat) (l : List UInt8) (n : Nat) (w : World) (hL : Rd w w.heap.size A l.length (bvs l)) (hl : l.length ≤ 1000) (hn : n < 18446744073709551616) :
    Calls Tryd.prog 55 #[.slice A l.length c, .int .u64 (n : Int), .int .i64 8] w (BRet w (l ++ be8 n) fun v => .tuple #[v, .int .i64 0]) := by
  obtain ⟨i2, hi2, hz2, hs2, hb2⟩ := info_parts infoTB
  have hB1 := below_one w (.cells #[] 5)
  have hown1 := own_empty w w.heap.size (Nat.le_refl _)
  have hsz1 : w.heap.size ≤ (w.alloc (.cells #[] 5)).heap.size := hB1.size
  have HL := Lib.hid (show Rd (w.alloc (.cells #[] 5)) w.heap.size A (l.length * 1) (bvs l) by rw [Nat.mul_one]; exact hL.below hB1)
  have M1 := Lib.hid (show 0 + l.length ≤ maxLen by unfold maxLen; omega)
  have M2 := Lib.hid (show (0 + l.length) * 1 ≤ 140737488355328 by omega)
  clear hL
  go_enter Tryd.func55, Tryd.ntmps55
  go_wp2_with (at_builtin; refine wpList_append_any _ rfl (.tmp 28) (.tmp 29) 25 rfl w.heap.size 5 i2 (.int .u8 0) 1 1 Tryd.underlying25 hi2 hz2 hs2 hb2 rfl (by omega) (.slice (some ⟨w.heap.size, 0, none⟩) 0 0) 0 [] rfl hown1 w.heap.size A l.length c (bvs l) rfl HL.out (bvs_one l) M1.out M2.out hsz1 ?_; intro v3 w3 hown3 hgr3 hat3; simp only [Nat.zero_add, List.nil_append] at hown3; have hB3 := hB1.grown hgr3 hB1.size (fun k e => by obtain ⟨_, _, h, _⟩ := own_block hown1 e; omega))
  go_loopw [8, 9] (fun v i wr => ∃ j : Nat, j ≤ 8 ∧ i = .int .i64 (7 - (j : Int)) ∧ wr.ownsRow w.heap.size 5 1 v (l.length + j) (bvs (l ++ (be8 n).take j)) ∧ Below w.heap.size w wr) (fun v i _ => (intOf i + 1).toNat)
  case atStart => exact ⟨0, by omega, rfl, by simpa using hown3, hB3⟩
  case round =>
    obtain ⟨j, hj, rfl, hO, hB⟩ := hrel
    obtain ⟨A8, c8, rfl, e1, e2⟩ := own_form hO
    have JO := Lib.hid hO
    have JB := Lib.hid hB
    clear hO hB hown1 hown3 hgr3 hat3 hB3
    by_cases hlt : j < 8
    · have hk : decide ((0 : Int) ≤ 7 - (j : Int)) = true := decide_eq_true (by omega)
      have hk' : (0 : Int) ≤ 7 - (j : Int) := by omega
      have hw1 : IntKind.i64.wrap (7 - (j : Int) - 1) = 7 - ((j + 1 : Nat) : Int) := (IntWalk.i64_in _ (by omega)).trans (by omega)
      have hw2 : IntKind.i64.wrap (8 * (7 - (j : Int))) = 8 * (7 - (j : Int)) := IntWalk.i64_in _ (by omega)
      have RD := Lib.hid (rd_new wr (.int .u8 ((n : Int) / 2 ^ (8 * (7 - j)) % 256)) 5)
      have O2 := Lib.hid (JO.out.alloc (.cells #[.int .u8 ((n : Int) / 2 ^ (8 * (7 - j)) % 256)] 5))
      have N1 := Lib.hid (show l.length + j + 1 ≤ maxLen by unfold maxLen; omega)
      have N2 := Lib.hid (show (l.length + j + 1) * 1 ≤ 140737488355328 by omega)
      have N3 := Lib.hid (show w.heap.size ≤ (wr.alloc (.cells #[.int .u8 ((n : Int) / 2 ^ (8 * (7 - j)) % 256)] 5)).heap.size by have := JB.out.size; simp; omega)
      go_wp2_with (at_builtin; refine wpList_append_any _ rfl (.tmp 37) (.tmp 44) 25 rfl w.heap.size 5 i2 (.int .u8 0) 1 1 Tryd.underlying25 hi2 hz2 hs2 hb2 rfl (by omega) (.slice A8 (l.length + j) c8) (l.length + j) (bvs (l ++ (be8 n).take j)) rfl O2.out _ (some ⟨wr.heap.size, 0, none⟩) 1 1 [.int .u8 ((n : Int) / 2 ^ (8 * (7 - j)) % 256)] rfl RD.out (byte_one _) N1.out N2.out N3.out ?_; intro v9 w9 hown9 hgr9 hat9)
      go_roundw
      case rel => exact ⟨j + 1, by omega, by first | rfl | (rw [hw1]), put_own hlt hown9, ((JB.out.alloc JB.out.size _).grown hgr9 (by have := JB.out.size; simp; omega) (fun k e => by obtain ⟨_, _, h, _⟩ := own_block JO.out e; omega))⟩
      case measure => simp [intOf]; omega
    · obtain rfl : j = 8 := by omega
      go_wp2
      go_ret2
      have h8 : (be8 n).take 8 = be8 n := List.take_of_length_le (by rw [be8_len]; exact Nat.le_refl _)
      have hO := JO.out
      rw [h8] at hO
      exact ⟨_, rfl, by rw [List.length_append, be8_len]; exact hO, JB.out⟩

theorem add_wrap (n b : Nat) (hn : n * 256 + b < 18446744073709551616) : IntKind.u64.wrap ((n : Int) * 256 + (b : Int)) = ((n * 256 + b : Nat) : Int) := by
  rw [wrapU (by omega) (by omega)]
  simp
set_option maxRecDepth 100000 in
set_option maxHeartbeats 1000000 in
theorem rtake8_any (A : Option Addr) (c : Nat) (l : List UInt8) (w : World) {B : Nat} (hL : Rd w B A l.length (bvs l)) (hB : B ≤ w.heap.size) (h8 : 8 ≤ l.length) (hl : l.length ≤ 1000) (hlc : l.length ≤ c) :
    Calls Tryd.prog 65 #[.slice A l.length c, .int .i64 8] w (BRet w (l.drop 8) fun v => .tuple #[.int .u64 (num8 (l.take 8) : Int), v, .int .i64 0]) := by
  obtain ⟨i2, hi2, hz2, hs2, hb2⟩ := info_parts infoTB
  obtain ⟨A', c', hrest, hR', hl', hc'⟩ := rest_any (t := 8) hL (by omega) h8 hlc
  have hx : decide ((l.length : Int) < 8) = false := decide_eq_false (by omega)
  have hx2 : decide (l.length < 8) = false := decide_eq_false (by omega)
  have hx3 : ¬ (l.length : Int) < 8 := by omega
  have HL := Lib.hid hL
  have HR := Lib.hid hR'
  have hdl : (l.drop 8).length ≤ 1000 := by rw [List.length_drop]; omega
  have hrest : ∀ w' : World, (Instr.slice 25 (.slice A l.length c) (some (.int .i64 8)) none none).run Tryd.prog w' = .ok (.slice A' (l.drop 8).length c') w' := hrest
  obtain ⟨r, hr⟩ : ∃ r, r = l.drop 8 := ⟨_, rfl⟩
  rw [← hr] at hrest HR hdl ⊢
  have hB1 := below_one w (.cells #[] 5)
  have hown1 := own_empty w w.heap.size (Nat.le_refl _)
  have hsz1 : w.heap.size ≤ (w.alloc (.cells #[] 5)).heap.size := hB1.size
  have HRR := Lib.hid (show Rd (w.alloc (.cells #[] 5)) w.heap.size A' (r.length * 1) (bvs r) by rw [Nat.mul_one]; exact (HR.out.more hB).below hB1)
  have M1 := Lib.hid (show 0 + r.length ≤ maxLen by unfold maxLen; omega)
  have M2 := Lib.hid (show (0 + r.length) * 1 ≤ 140737488355328 by omega)
  clear hL hR' hl' hc' hdl hr
  go_enter Tryd.func65, Tryd.ntmps65
  go_wp2
  go_loopw [7, 8] (fun v i wr => ∃ j : Nat, j ≤ 8 ∧ i = .int .i64 j ∧ v = .int .u64 (num8 (l.take j) : Int) ∧ wr = w) (fun v i _ => 8 - (intOf i).toNat)
  case atStart => exact ⟨0, by omega, rfl, rfl, rfl⟩
  case round =>
    obtain ⟨j, hj, rfl, rfl, rfl⟩ := hrel
    by_cases hlt : j < 8
    · obtain ⟨ad, u, rfl, hb, hu, hcu⟩ := HL.out.at_ (k := j) (by omega)
      have hk0 : (0 : Int) ≤ (j : Int) := by omega
      have hk1 : (j : Int) < 8 := by omega
      have hk2 : (j : Int) < (l.length : Int) := by omega
      obtain ⟨b, hlb, rfl⟩ := bvs_got hu
      have hn := num8_lt (l.take j)
      have hlj : (l.take j).length = j := by rw [List.length_take]; omega
      have hp : (256 : Nat) ^ j ≤ 256 ^ 7 := Nat.pow_le_pow_right (by omega) (by omega)
      rw [hlj] at hn
      have hw : IntKind.u64.wrap ((num8 (l.take j) : Int) * 256) = (num8 (l.take j) : Int) * 256 := wrapU (by omega) (by omega)
      have hb := UInt8.toNat_lt b
      have hw3 : IntKind.u64.wrap (b.toNat : Int) = (b.toNat : Int) := wrapU (by omega) (by omega)
      have hor : IntKind.u64.wrap ((num8 (l.take j) : Int) * 256 + (b.toNat : Int)) = (num8 (l.take (j + 1)) : Int) := by
        rw [take_of_at hlb, num8_snoc]
        exact add_wrap _ _ (by omega)
      unfold bv at *
      go_wp2
      go_roundw
      case rel => exact ⟨j + 1, by omega, by go_num, by first | rfl | rw [hor], by first | rfl | trivial⟩
      case measure => simp [intOf]; omega
    · obtain rfl : j = 8 := by omega
      go_wp2_with (at_builtin; refine wpList_append_any _ rfl (.tmp 35) (.tmp 38) 25 rfl wr.heap.size 5 i2 (.int .u8 0) 1 1 Tryd.underlying25 hi2 hz2 hs2 hb2 rfl (by omega) (.slice (some ⟨wr.heap.size, 0, none⟩) 0 0) 0 [] rfl hown1 wr.heap.size A' r.length c' (bvs r) rfl HRR.out (bvs_one r) M1.out M2.out hsz1 ?_; intro v3 w3 hown3 hgr3 hat3; simp only [Nat.zero_add, List.nil_append] at hown3; have hB3 := hB1.grown hgr3 hB1.size (fun k e => by obtain ⟨_, _, h, _⟩ := own_block hown1 e; omega))
      refine bodyPost_ret (v := .tuple #[.int .u64 (num8 (l.take 8) : Int), v3, .int .i64 0]) (by simp [results, Tryd.results65, go_sem]) rfl ?_
      exact ⟨v3, rfl, hown3, hB3⟩
end Go.Proofs.YtgeofnemlijbgaaDoor

namespace Go.Proofs.YtgeofnemlijbgaaDoor
open Go.RowKit
set_option linter.unusedVariables false
set_option linter.unusedSimpArgs false

theorem zeros_snoc (n : Nat) : zeros n ++ [0] = zeros (n + 1) := by unfold zeros; rw [← List.replicate_succ']
theorem head_own {w9 : World} {base : Nat} {v9 : Value} {b : List UInt8} {k : Nat} (h : w9.ownsRow base 5 1 v9 (17 + k + 1) (bvs (b ++ zeros k) ++ [.int .u8 0])) : w9.ownsRow base 5 1 v9 (17 + (k + 1)) (bvs (b ++ zeros (k + 1))) := by
  have e : bvs (b ++ zeros k) ++ [.int .u8 0] = bvs (b ++ zeros (k + 1)) := by
    rw [← zeros_snoc, ← List.append_assoc, bvs_append (b ++ zeros k)]
    rfl
  rw [e] at h
  exact h
set_option maxRecDepth 100000 in
set_option maxHeartbeats 2000000 in
theorem rhead_any (n m : Nat) (w : World) (hn : n < 9223372036854775808) (hm : m < 9223372036854775808) :
    Calls Tryd.prog 43 #[.int .i64 (n : Int), .int .i64 (m : Int)] w (BRet w (headL n m) id) := by
  obtain ⟨i2, hi2, hz2, hs2, hb2⟩ := info_parts infoTB
  have hB0 := below_one w (.cells #[.int .u8 1] 5)
  have hR0 : Rd (w.alloc (.cells #[.int .u8 1] 5)) (w.alloc (.cells #[.int .u8 1] 5)).heap.size (some ⟨w.heap.size, 0, none⟩) 1 (bvs [1]) := by
    have h := rd_new w (.int .u8 1) 5
    exact h.more (by simp)
  have HR0 := Lib.hid hR0
  have HB0 := Lib.hid hB0
  have cn : (n : Int) % 18446744073709551616 = (n : Int) := by omega
  have cm : (m : Int) % 18446744073709551616 = (m : Int) := by omega
  clear hR0 hB0
  go_enter Tryd.func43, Tryd.ntmps43
  go_upto_region 2 with (go_at_call 55; refine (rput8_any (some ⟨w.heap.size, 0, none⟩) 1 [1] n _ HR0.out (by decide) (by omega)).mono ?_; rintro e w2 ⟨v2, rfl, hO2, hB2⟩)
  obtain ⟨A2, c2, rfl, _, _⟩ := own_form hO2
  have R2 := Lib.hid (own_rd hO2)
  have HB2 := Lib.hid (keepB hB2 HB0.out)
  clear hO2 hB2
  go_wp2_with (go_at_call 55; refine (rput8_any A2 c2 ([1] ++ be8 n) m _ R2.out (by simp [be8_len]) (by omega)).mono ?_; rintro e w3 ⟨v3, rfl, hO3, hB3⟩; have hw3 := hB3.size)
  have hl17 : ([1] ++ be8 n ++ be8 m).length = 17 := by simp [be8_len]
  have hO3' : w3.ownsRow w.heap.size 5 1 v3 17 (bvs ([1] ++ be8 n ++ be8 m)) := by
    have := own_less hO3 (b := w.heap.size) HB2.out.size
    rwa [hl17] at this
  have HB3 := keepB hB3 HB2.out
  obtain ⟨b, hb⟩ : ∃ b, b = [1] ++ be8 n ++ be8 m := ⟨_, rfl⟩
  rw [← hb] at hO3'
  have HBB := Lib.hid hb
  clear hO3 hB3 hl17 hb
  go_loopw [7] (fun v wr => ∃ k : Nat, k ≤ 46 ∧ wr.ownsRow w.heap.size 5 1 v (17 + k) (bvs (b ++ zeros k)) ∧ Below w.heap.size w wr) (fun v _ => 63 - (match v with | .slice _ n _ => n | _ => 0))
  case atStart => exact ⟨0, by omega, by simpa [zeros] using hO3', HB3⟩
  case round =>
    obtain ⟨k, hk, hO, hB⟩ := hrel
    obtain ⟨A8, c8, rfl, e1, e2⟩ := own_form hO
    have JO := Lib.hid hO
    have JB := Lib.hid hB
    clear hO hB hO3' HB3
    by_cases hlt : k < 46
    · have hk1 : ((17 + k : Nat) : Int) < 63 := by omega
      have hk2 : decide (((17 + k : Nat) : Int) < 63) = true := decide_eq_true hk1
      have RD := Lib.hid (rd_new wr (.int .u8 0) 5)
      have O2 := Lib.hid (JO.out.alloc (.cells #[.int .u8 0] 5))
      have N1 := Lib.hid (show 17 + k + 1 ≤ maxLen by unfold maxLen; omega)
      have N2 := Lib.hid (show (17 + k + 1) * 1 ≤ 140737488355328 by omega)
      have N3 := Lib.hid (show w.heap.size ≤ (wr.alloc (.cells #[.int .u8 0] 5)).heap.size by have := JB.out.size; simp; omega)
      go_wp2_with (at_builtin; refine wpList_append_any _ rfl (.tmp 26) (.tmp 27) 25 rfl w.heap.size 5 i2 (.int .u8 0) 1 1 Tryd.underlying25 hi2 hz2 hs2 hb2 rfl (by omega) (.slice A8 (17 + k) c8) (17 + k) (bvs (b ++ zeros k)) rfl O2.out _ (some ⟨wr.heap.size, 0, none⟩) 1 1 [.int .u8 0] rfl RD.out (byte_one _) N1.out N2.out N3.out ?_; intro v9 w9 hown9 hgr9 hat9)
      obtain ⟨A9, c9, rfl, _, _⟩ := own_form hown9
      go_roundw
      case rel => exact ⟨k + 1, by omega, head_own hown9, ((JB.out.alloc JB.out.size _).grown hgr9 (by have := JB.out.size; simp; omega) (fun k e => by obtain ⟨_, _, h, _⟩ := own_block JO.out e; omega))⟩
      case measure => simp; omega
    · obtain rfl : k = 46 := by omega
      have RD := Lib.hid (rd_new wr (.int .u8 1) 5)
      have O2 := Lib.hid (JO.out.alloc (.cells #[.int .u8 1] 5))
      have N1 := Lib.hid (show 17 + 46 + 1 ≤ maxLen by unfold maxLen; omega)
      have N2 := Lib.hid (show (17 + 46 + 1) * 1 ≤ 140737488355328 by omega)
      have N3 := Lib.hid (show w.heap.size ≤ (wr.alloc (.cells #[.int .u8 1] 5)).heap.size by have := JB.out.size; simp; omega)
      go_wp2_with (at_builtin; refine wpList_append_any _ rfl (.tmp 29) (.tmp 30) 25 rfl w.heap.size 5 i2 (.int .u8 0) 1 1 Tryd.underlying25 hi2 hz2 hs2 hb2 rfl (by omega) (.slice A8 (17 + 46) c8) (17 + 46) (bvs (b ++ zeros 46)) rfl O2.out _ (some ⟨wr.heap.size, 0, none⟩) 1 1 [.int .u8 1] rfl RD.out (byte_one _) N1.out N2.out N3.out ?_; intro v9 w9 hown9 hgr9 hat9)
      go_ret
      refine ⟨v9, rfl, ?_, ((JB.out.alloc JB.out.size _).grown hgr9 (by have := JB.out.size; simp; omega) (fun k e => by obtain ⟨_, _, h, _⟩ := own_block JO.out e; omega))⟩
      have e : bvs (b ++ zeros 46) ++ [.int .u8 1] = bvs (headL n m) := by
        unfold headL
        rw [← HBB.out, bvs_append (b ++ zeros 46)]
        rfl
      rw [headL_len, ← e]
      exact hown9
end Go.Proofs.YtgeofnemlijbgaaDoor
