/- vault.readHead. -/
import Derived.Test.YtgeofnemlijbgaaDoorV4
namespace Go.Proofs.YtgeofnemlijbgaaDoor
open Go.RowKit
set_option linter.unusedVariables false

def seqOf (s : List UInt8) : Nat := num8 ((s.drop 1).take 8)
def lenOf (s : List UInt8) : Nat := num8 ((s.drop 9).take 8)
/-- The number, and the length, of a head that counts. -/
def readH (s : List UInt8) (room : Int) : Option (Nat × Nat) :=
  if s.length = 64 ∧ seqOf s ≤ 4611686018427387903 ∧ (lenOf s : Int) ≤ room ∧ s = headL (seqOf s) (lenOf s) then some (seqOf s, lenOf s) else none
abbrev rhV : Option (Nat × Nat) → Value
  | some (n, m) => .tuple #[.int .i64 (n : Int), .int .i64 (m : Int), .bool true]
  | none => .tuple #[.int .i64 0, .int .i64 0, .bool false]
theorem readH_none {s : List UInt8} {room : Int} (h : ¬ (s.length = 64 ∧ seqOf s ≤ 4611686018427387903 ∧ (lenOf s : Int) ≤ room ∧ s = headL (seqOf s) (lenOf s))) : readH s room = none := if_neg h

set_option maxRecDepth 100000 in
set_option maxHeartbeats 2000000 in
theorem readhead_any (A : Option Addr) (c : Nat) (s : List UInt8) (room : Int) (w : World) {B : Nat} (hR : Rd w B A s.length (bvs s)) (hB : B ≤ w.heap.size) (hlc : s.length ≤ c) (r0 : 0 ≤ room) (r1 : room ≤ 1000000) :
    Calls Tryd.prog 49 #[.slice A s.length c, .int .i64 room] w fun e w' => e = .returned (rhV (readH s room)) ∧ Below w.heap.size w w' := by
  by_cases h64 : s.length = 64
  · have t64 : ((s.length : Int) != 64) = false := by rw [h64]; rfl
    obtain ⟨A1, c1, hrest, hR1, hl1, hc1⟩ := rest_any (t := 1) hR (by omega) (by omega) hlc
    have hrest1 : ∀ w' : World, (Instr.slice 25 (.slice A s.length c) (some (.int .i64 1)) none none).run Tryd.prog w' = .ok (.slice A1 (s.drop 1).length c1) w' := hrest
    have hdd : (s.drop 1).drop 8 = s.drop 9 := by rw [List.drop_drop]
    have hq : seqOf s = num8 ((s.drop 1).take 8) := rfl
    have hm : lenOf s = num8 (((s.drop 1).drop 8).take 8) := by rw [hdd]; rfl
    have h63 : (s.drop 1).length = 63 := by rw [List.length_drop]; omega
    have h55 : ((s.drop 1).drop 8).length = 55 := by rw [List.length_drop]; omega
    obtain ⟨s1, hs1⟩ : ∃ s1, s1 = s.drop 1 := ⟨_, rfl⟩
    rw [← hs1] at hrest1 hR1 hl1 h63 hq hm h55
    obtain ⟨s2, hs2⟩ : ∃ s2, s2 = s1.drop 8 := ⟨_, rfl⟩
    rw [← hs2] at hm h55
    have hnb := num8_lt (s1.take 8)
    have hmb := num8_lt (s2.take 8)
    rw [← hq, List.length_take] at hnb
    rw [← hm, List.length_take] at hmb
    have e8 : min 8 s1.length = 8 := by omega
    have e9 : min 8 s2.length = 8 := by omega
    rw [e8] at hnb
    rw [e9] at hmb
    have HQ := Lib.hid hq
    have HM := Lib.hid hm
    have HR := Lib.hid hR
    have HR1 := Lib.hid hR1
    have H55 := Lib.hid h55
    have H63 := Lib.hid h63
    have HS2 := Lib.hid hs2
    have HL1 := Lib.hid hl1
    have H64 := Lib.hid h64
    obtain ⟨n, hn⟩ : ∃ n, n = seqOf s := ⟨_, rfl⟩
    obtain ⟨m, hm'⟩ : ∃ n, n = lenOf s := ⟨_, rfl⟩
    have hrh : readH s room = if s.length = 64 ∧ n ≤ 4611686018427387903 ∧ (m : Int) ≤ room ∧ s = headL n m then some (n, m) else none := by rw [hn, hm']; rfl
    rw [← hn] at hnb HQ
    rw [← hm'] at hmb HM
    obtain ⟨rh, hrr⟩ : ∃ r, r = readH s room := ⟨_, rfl⟩
    rw [← hrr]
    have HRH := Lib.hid (hrr.trans hrh)
    clear hrh hrr hn hm' hdd hq hm hs1 hs2 hrest hR hR1 hl1 hc1 h64 h63 h55 e8 e9
    by_cases hn62 : n ≤ 4611686018427387903
    · have tn : decide ((4611686018427387903 : Int) < (n : Int)) = false := decide_eq_false (by omega)
      have tn2 : decide (4611686018427387903 < n) = false := decide_eq_false (by omega)
      have wr : room % 18446744073709551616 = room := by omega
      have wn : IntKind.i64.wrap (n : Int) = (n : Int) := IntWalk.i64_in _ (by omega)
      by_cases hmr : (m : Int) ≤ room
      · have tm : decide (room < (m : Int)) = false := decide_eq_false (by omega)
        have wm : IntKind.i64.wrap (m : Int) = (m : Int) := IntWalk.i64_in _ (by omega)
        obtain ⟨q, hq⟩ : ∃ q, q = eqB s (headL n m) := ⟨_, rfl⟩
        have HQB := Lib.hid hq
        clear hq
        have hrv : rhV rh = if q then rhV (some (n, m)) else rhV none := by
          rw [HRH.out, HQB.out]
          unfold eqB
          by_cases he : s = headL n m
          · rw [if_pos ⟨H64.out, hn62, hmr, he⟩, if_pos (by simpa using he)]
          · rw [if_neg (fun h => he h.2.2.2), if_neg (by simpa using he)]
        rw [hrv]
        clear hrv
        cases q
        all_goals
          go_enter Tryd.func49, Tryd.ntmps49
          go_wp2_with (first
            | (go_at_call_of 56 (Value.slice A1 s1.length c1); refine (take8_any A1 c1 s1 _ HR1.out hB (by have := H63.out; omega) (by have := H63.out; omega) HL1.out).mono ?_; rw [← HQ.out, ← HS2.out]; rintro e w2 ⟨v2, rfl, hO2, hB2⟩; obtain ⟨A2, c2, rfl, hc2, hcm2⟩ := own_form hO2; have R2 := Lib.hid (own_rd hO2); have HB2 := Lib.hid hB2; clear hO2 hB2)
            | (go_at_call 56; refine (take8_any A2 c2 s2 _ R2.out (Nat.le_refl _) (by have := H55.out; omega) (by have := H55.out; omega) hc2).mono ?_; rw [← HM.out]; rintro e w3 ⟨v3, rfl, hO3, hB3⟩; have HB3 := Lib.hid (keepB hB3 HB2.out); clear hO3 hB3)
            | (go_at_call 42; refine (head_any n m _ (by omega) (by omega)).mono ?_; rintro e w4 ⟨v4, rfl, hO4, hB4⟩; obtain ⟨A4, c4, hv4, hc4, hcm4⟩ := own_form hO4; have R4 := Lib.hid (own_rd (by rw [hv4] at hO4; exact hO4)); have HB4 := Lib.hid (keepB hB4 HB3.out); clear hO4 hB4; simp only [id, hv4])
            | (go_at_call 57; refine (equal_any A A4 c c4 s (headL n m) _ (HR.out.below (HB4.out.mono hB)) R4.out).mono ?_; rw [← HQB.out]; rintro e w5 ⟨rfl, rfl⟩))
          refine bodyPost_ret (by simp [results, Tryd.results49, go_sem]; rfl) rfl ?_
          exact ⟨rfl, HB4.out⟩
      · have tm : decide (room < (m : Int)) = true := decide_eq_true (by omega)
        have hrv : rh = none := by rw [HRH.out, if_neg (fun h => hmr h.2.2.1)]
        rw [hrv]
        clear hrv
        go_enter Tryd.func49, Tryd.ntmps49
        go_wp2_with (first
          | (go_at_call_of 56 (Value.slice A1 s1.length c1); refine (take8_any A1 c1 s1 _ HR1.out hB (by have := H63.out; omega) (by have := H63.out; omega) HL1.out).mono ?_; rw [← HQ.out, ← HS2.out]; rintro e w2 ⟨v2, rfl, hO2, hB2⟩; obtain ⟨A2, c2, rfl, hc2, hcm2⟩ := own_form hO2; have R2 := Lib.hid (own_rd hO2); have HB2 := Lib.hid hB2; clear hO2 hB2)
          | (go_at_call 56; refine (take8_any A2 c2 s2 _ R2.out (Nat.le_refl _) (by have := H55.out; omega) (by have := H55.out; omega) hc2).mono ?_; rw [← HM.out]; rintro e w3 ⟨v3, rfl, hO3, hB3⟩; have HB3 := Lib.hid (keepB hB3 HB2.out); clear hO3 hB3))
        refine bodyPost_ret (v := rhV none) (by simp [results, Tryd.results49, go_sem]) rfl ?_
        exact ⟨rfl, HB3.out⟩
    · have tn : decide ((4611686018427387903 : Int) < (n : Int)) = true := decide_eq_true (by omega)
      have tn2 : decide (4611686018427387903 < n) = true := decide_eq_true (by omega)
      have hrv : rh = none := by rw [HRH.out, if_neg (fun h => hn62 h.2.1)]
      rw [hrv]
      clear hrv
      go_enter Tryd.func49, Tryd.ntmps49
      go_wp2_with (go_at_call 56; refine (take8_any A1 c1 s1 _ HR1.out hB (by have := H63.out; omega) (by have := H63.out; omega) HL1.out).mono ?_; rw [← HQ.out, ← HS2.out]; rintro e w2 ⟨v2, rfl, hO2, hB2⟩)
      refine bodyPost_ret (v := rhV none) (by simp [results, Tryd.results49, go_sem]) rfl ?_
      exact ⟨rfl, hB2⟩
  · rw [readH_none (fun h => h64 h.1)]
    have t64 : ((s.length : Int) != 64) = true := by rw [bne_iff_ne]; omega
    go_enter Tryd.func49, Tryd.ntmps49
    go_wp2
    refine bodyPost_ret (v := rhV none) (by simp [results, Tryd.results49, go_sem]) rfl ?_
    exact ⟨rfl, Below.refl _ _⟩
end Go.Proofs.YtgeofnemlijbgaaDoor
