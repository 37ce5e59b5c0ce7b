/- bytes.Trim of bytes 0. -/
import Derived.Test.YtgeofnemlijbgaaDoorV7
namespace Go.Proofs.YtgeofnemlijbgaaDoor
open Go.RowKit
set_option linter.unusedVariables false
set_option linter.unusedSimpArgs false
attribute [local go_sem high] run_cut

set_option maxRecDepth 100000 in
set_option maxHeartbeats 2000000 in
theorem trimr_any (A : Option Addr) (c : Nat) (l : List UInt8) (w : World) {B : Nat} (hR : Rd w B A l.length (bvs l)) (hlc : l.length ≤ c) (hcm : c ≤ maxLen) :
    Calls Tryd.prog 59 #[.slice A l.length c, .int .u8 0] w fun e w' => (∃ n, n ≤ l.length ∧ e = .returned (.slice A n c) ∧ ∀ (i : Nat) (b : UInt8), n ≤ i → l[i]? = some b → b = 0) ∧ w' = w := by
  have HR := Lib.hid hR
  unfold maxLen at hcm
  clear hR
  go_enter Tryd.func59, Tryd.ntmps59
  go_wp2_with fail
  go_loopw [0] (fun v wr => ∃ n : Nat, n ≤ l.length ∧ v = .slice A n c ∧ (∀ (i : Nat) (b : UInt8), n ≤ i → l[i]? = some b → b = 0) ∧ wr = w) (fun v _ => match v with | .slice _ n _ => n | _ => 0)
  case atStart => exact ⟨l.length, Nat.le_refl _, rfl, fun i b hi hb => (by rw [List.getElem?_eq_none hi] at hb; cases hb), rfl⟩
  case round =>
    obtain ⟨n, hn, rfl, hz, rfl⟩ := hrel
    have HZ := Lib.hid hz
    clear hz
    by_cases h0 : 0 < n
    · obtain ⟨ad, u, rfl, hb, hu, hcu⟩ := HR.out.at_ (k := n - 1) (by omega)
      obtain ⟨b, hlb, rfl⟩ := bvs_got hu
      have HLB := Lib.hid hlb
      have hcast : (n : Int) - 1 = ((n - 1 : Nat) : Int) := by omega
      have hk0 : (0 : Int) ≤ ((n - 1 : Nat) : Int) := by omega
      have hk1 : ((n - 1 : Nat) : Int) < (n : Int) := by omega
      have hw : IntKind.i64.wrap ((n : Int) - 1) = ((n - 1 : Nat) : Int) := by rw [IntWalk.i64_in _ (by omega)]; omega
      have hgt : decide ((0 : Int) < (n : Int)) = true := decide_eq_true (by omega)
      have hgt2 : decide (0 < n) = true := decide_eq_true (by omega)
      have hcc : ((n - 1 : Nat) : Int) ≤ (c : Int) := by omega
      have hb256 := UInt8.toNat_lt b
      unfold bv at hcu
      clear hlb hu
      by_cases hb0 : b = 0
      · have tb : ((b.toNat : Int) == 0) = true := by subst hb0; rfl
        have htn : b.toNat = 0 := by subst hb0; rfl
        go_wp2
        go_roundw
        case rel =>
          refine ⟨n - 1, by omega, rfl, fun i b' hi hb' => ?_, by first | rfl | trivial⟩
          by_cases hin : n ≤ i
          · exact HZ.out i b' hin hb'
          · obtain rfl : i = n - 1 := by omega
            rw [HLB.out] at hb'
            injection hb' with hb'
            rw [← hb', hb0]
        case measure => simp; omega
      · have htn : b.toNat ≠ 0 := fun h => hb0 (UInt8.toNat_inj.1 (by rw [h]; rfl))
        have tb : ((b.toNat : Int) == 0) = false := by rw [beq_eq_false_iff_ne]; omega
        go_wp2
        go_ret
        exact ⟨⟨n, hn, rfl, HZ.out⟩, rfl⟩
    · obtain rfl : n = 0 := by omega
      go_wp2
      go_ret
      exact ⟨⟨0, hn, rfl, HZ.out⟩, rfl⟩

/-- 's[1:]' of bytes that are there. -/
theorem step_rest {w : World} {B c : Nat} {A : Option Addr} {l : List UInt8} (h : Rd w B A l.length (bvs l)) (hn : 0 < l.length) (hlc : l.length ≤ c) :
    ∃ A' c', (∀ w' : World, (Instr.slice 25 (.slice A l.length c) (some (.int .i64 1)) none none).run Tryd.prog w' = .ok (.slice A' (l.drop 1).length c') w') ∧ Rd w B A' (l.drop 1).length (bvs (l.drop 1)) ∧ (l.drop 1).length ≤ c' ∧ c' ≤ c :=
  rest_any (t := 1) h hn (by omega) hlc
set_option maxRecDepth 100000 in
set_option maxHeartbeats 2000000 in
theorem triml_any (A : Option Addr) (c : Nat) (l : List UInt8) (w : World) {B : Nat} (hR : Rd w B A l.length (bvs l)) (hlc : l.length ≤ c) (hcm : c ≤ maxLen) :
    Calls Tryd.prog 58 #[.slice A l.length c, .int .u8 0] w fun e w' => (∃ A' m c', e = .returned (.slice A' m c') ∧ (0 < m ↔ ∃ b ∈ l, b ≠ 0)) ∧ w' = w := by
  have HR := Lib.hid hR
  clear hR
  go_enter Tryd.func58, Tryd.ntmps58
  go_wp2_with fail
  go_loopw [0] (fun v wr => ∃ (A' : Option Addr) (c' : Nat) (r : List UInt8), v = .slice A' r.length c' ∧ Rd w B A' r.length (bvs r) ∧ r.length ≤ c' ∧ ((∃ b ∈ r, b ≠ 0) ↔ ∃ b ∈ l, b ≠ 0) ∧ wr = w) (fun v _ => match v with | .slice _ n _ => n | _ => 0)
  case atStart => exact ⟨A, c, l, rfl, HR.out, hlc, Iff.rfl, rfl⟩
  case round =>
    obtain ⟨A', c', r, rfl, hR, hrc, hiff, rfl⟩ := hrel
    rcases r with _ | ⟨b, t⟩
    · go_wp2
      go_ret
      exact ⟨⟨none, 0, 0, rfl, ⟨fun h => absurd h (by omega), fun h => by obtain ⟨b, hb, _⟩ := hiff.2 h; cases hb⟩⟩, rfl⟩
    · obtain ⟨A2, c2, hrest, hR2, hl2, hc2⟩ := step_rest hR (by simp) hrc
      have hrest2 : ∀ w' : World, (Instr.slice 25 (.slice A' (t.length + 1) c') (some (.int .i64 1)) none none).run Tryd.prog w' = .ok (.slice A2 t.length c2) w' := hrest
      obtain ⟨ad, u, rfl, hb, hu, hcu⟩ := hR.at_ (k := 0) (by simp)
      obtain ⟨b', hlb, rfl⟩ := bvs_got hu
      simp only [List.getElem?_cons_zero, Option.some.injEq] at hlb
      subst hlb
      have hcu2 : wr.cell? ad = some (.int .u8 (b.toNat : Int)) := by simpa [Addr.add, bv] using hcu
      have H2 := Lib.hid hR2
      have HI := Lib.hid hiff
      have hk1 : (0 : Int) < (t.length : Int) + 1 := by omega
      have hb256 := UInt8.toNat_lt b
      clear hcu hrest hiff hR hu hR2
      by_cases hb0 : b = 0
      · have tb : ((b.toNat : Int) == 0) = true := by subst hb0; rfl
        have htn : b.toNat = 0 := by subst hb0; rfl
        go_wp2
        go_roundw
        case rel =>
          refine ⟨A2, c2, t, rfl, H2.out, hl2, ?_, by first | rfl | trivial⟩
          rw [← HI.out]
          simp [hb0]
        case measure => simp
      · have htn : b.toNat ≠ 0 := fun h => hb0 (UInt8.toNat_inj.1 (by rw [h]; rfl))
        have tb : ((b.toNat : Int) == 0) = false := by rw [beq_eq_false_iff_ne]; omega
        go_wp2
        go_ret
        exact ⟨⟨_, _, _, rfl, ⟨fun _ => HI.out.1 ⟨b, List.mem_cons_self .., hb0⟩, fun _ => by simp⟩⟩, rfl⟩
end Go.Proofs.YtgeofnemlijbgaaDoor
