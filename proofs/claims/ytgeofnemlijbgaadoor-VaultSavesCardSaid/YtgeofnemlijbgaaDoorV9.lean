/- bytes.Trim of bytes 0; vault.dirty. -/
import Derived.Test.YtgeofnemlijbgaaDoorV8
import Derived.Deep.RegionWith
import Derived.Deep.RegionHeld3
namespace Go.Proofs.YtgeofnemlijbgaaDoor
open Go.RowKit
set_option linter.unusedVariables false
set_option linter.unusedSimpArgs false

theorem trim_iff {l : List UInt8} {n : Nat} (hz : ∀ (i : Nat) (b : UInt8), n ≤ i → l[i]? = some b → b = 0) : (∃ b ∈ l.take n, b ≠ 0) ↔ ∃ b ∈ l, b ≠ 0 := by
  constructor
  · rintro ⟨b, hb, h⟩; exact ⟨b, List.mem_of_mem_take hb, h⟩
  · rintro ⟨b, hb, h⟩
    obtain ⟨i, hi⟩ := List.getElem?_of_mem hb
    by_cases hin : n ≤ i
    · exact absurd (hz i b hin hi) h
    · exact ⟨b, List.mem_of_getElem? (i := i) (by rw [List.getElem?_take_of_lt (by omega)]; exact hi), h⟩

theorem tl_at {A : Option Addr} {c n B : Nat} {r : List UInt8} {w : World} (hr : r.length = n) (hR : Rd w B A n (bvs r)) (hlc : n ≤ c) (hcm : c ≤ maxLen) :
    Calls Tryd.prog 58 #[.slice A n c, .int .u8 0] w fun e w' => (∃ A' m c', e = .returned (.slice A' m c') ∧ (0 < m ↔ ∃ b ∈ r, b ≠ 0)) ∧ w' = w := by
  subst hr
  exact triml_any A c r w hR hlc hcm
set_option maxRecDepth 100000 in
set_option maxHeartbeats 2000000 in
theorem trim0_any (A : Option Addr) (c : Nat) (l : List UInt8) (w : World) {B : Nat} (hR : Rd w B A l.length (bvs l)) (hlc : l.length ≤ c) (hcm : c ≤ maxLen) (hne : 0 < l.length) :
    Calls Tryd.prog 51 #[.slice A l.length c, .string ⟨#[0]⟩] w fun e w' => (∃ A' m c', e = .returned (.slice A' m c') ∧ (0 < m ↔ ∃ b ∈ l, b ≠ 0)) ∧ w' = w.drew := by
  have HR := Lib.hid hR
  have hlen : (l.length == 0) = false := by rw [beq_eq_false_iff_ne]; omega
  have hlen2 : ((l.length : Int) == 0) = false := by rw [beq_eq_false_iff_ne]; omega
  clear hR hne
  go_enter Tryd.func51, Tryd.ntmps51
  go_wp2
  go_region_with (first
    | (go_at_call 59; refine (trimr_any A c l _ (B := B) (by exact HR.out) hlc hcm).mono ?_; rintro e w2 ⟨⟨n, hn, rfl, hz⟩, rfl⟩; have HZ := Lib.hid hz; have hln : (l.take n).length = n := (by rw [List.length_take]; omega); have HRN := Lib.hid (begin_rd HR.out hn); clear hz)
    | (go_at_call 58; refine (tl_at hln (by exact HRN.out) (Nat.le_trans hn hlc) hcm).mono ?_; rintro e w3 ⟨⟨A3, m3, c3, rfl, hi3⟩, rfl⟩))
  all_goals
    go_wp2
    go_ret
    exact ⟨⟨_, _, _, rfl, hi3.trans (trim_iff HZ.out)⟩, rfl⟩
end Go.Proofs.YtgeofnemlijbgaaDoor
