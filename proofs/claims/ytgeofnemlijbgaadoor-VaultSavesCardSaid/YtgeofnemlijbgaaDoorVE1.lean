/- The document's Check; the laws' few. -/
import Derived.Test.YtgeofnemlijbgaaDoorD5
namespace Go.Proofs.YtgeofnemlijbgaaDoor
open Go.RowKit
set_option linter.unusedVariables false

set_option maxRecDepth 100000 in
set_option maxHeartbeats 400000 in
theorem rcheck_any (A : Option Addr) (n c : Nat) (left torn : Int) (off : Bool) (done : Int) (ss : List (List UInt8)) (w : World) (hd : Bss w w.heap.size A n ss) (hm : n ≤ maxLen) :
    Calls Tryd.prog 38 #[dv A n c left torn off done] w fun e w' => e = .returned (.bool (checkB ss)) ∧ Below w.heap.size w w' := by
  unfold maxLen at hm
  have hn := hd.1
  have HN := Lib.hid hn
  clear hn
  go_enter Tryd.func38, Tryd.ntmps38
  go_wp2
  go_loop [3] (fun i => ∃ k : Nat, k ≤ n ∧ i = .int .i64 k ∧ ∀ (j : Nat) (l : List UInt8), j < k → ss[j]? = some l → l.length = 64) (fun i => n - (intOf i).toNat)
  case atStart => exact ⟨0, Nat.zero_le _, rfl, fun j l hj => absurd hj (by omega)⟩
  case round =>
    obtain ⟨k, hk, rfl, hall⟩ := hrel
    have H := Lib.hid hall
    clear hall
    by_cases hlt : k < n
    · obtain ⟨ad, Ai, ci, l, rfl, hb, hl, hc, h1, h2, h3⟩ := hd.at_ hlt
      have hc' := fun o => (World.cell?_alloc_lt w o (ad.add k) (by rw [block_of_add]; exact hb)).trans hc
      have HL := Lib.hid hl
      unfold maxLen at h2
      clear h3 hl hc
      by_cases h64 : l.length = 64
      · have h64' : ((l.length : Int) != 64) = false := by simp; omega
        have H64 := Lib.hid h64
        clear h64
        go_wp2
        go_round
        case rel =>
          refine ⟨k + 1, by omega, by go_num, fun j l' hj hl' => ?_⟩
          rcases Nat.lt_or_ge j k with h | h
          · exact H.out j l' h hl'
          · obtain rfl : j = k := by omega
            have := HL.out.symm.trans hl'
            simp at this
            subst this
            exact H64.out
        case measure => simp [intOf]; omega
      · have h64' : ((l.length : Int) != 64) = true := by simp; omega
        go_wp2
        go_ret
        exact ⟨ret_b (checkB_false_at HL.out h64).symm, (Below.refl _ _).alloc (Nat.le_refl _) _⟩
    · obtain rfl : k = n := by omega
      by_cases h4 : 4 ≤ k
      · by_cases h5 : k ≤ 2048
        · go_wp2
          go_ret
          exact ⟨ret_b ((decide_eq_true (by omega)).trans (checkB_true (by rw [HN.out]; exact h4) (by rw [HN.out]; exact h5) (fun j l hj => H.out j l (by have := HN.out; have := (List.getElem?_eq_some_iff.1 hj).1; omega) hj)).symm), (Below.refl _ _).alloc (Nat.le_refl _) _⟩
        · have h5' : 2048 < k := by omega
          go_wp2
          go_ret
          exact ⟨ret_b ((decide_eq_false (by omega)).trans (checkB_false_len (by have := HN.out; omega)).symm), (Below.refl _ _).alloc (Nat.le_refl _) _⟩
      · have h4' : k < 4 := by omega
        go_wp2
        go_ret
        exact ⟨ret_b (checkB_false_len (by have := HN.out; omega)).symm, (Below.refl _ _).alloc (Nat.le_refl _) _⟩

def fewB (l : List Wr) : Bool := decide (l.length ≤ 50) && l.all fun x => decide (x.2.length ≤ 100)
theorem fewB_false_len {l : List Wr} (h : 50 < l.length) : fewB l = false := by
  have : decide (l.length ≤ 50) = false := by simp; omega
  simp [fewB, this]
theorem fewB_false_at {l : List Wr} {k : Nat} {x : Wr} (h : l[k]? = some x) (hl : 100 < x.2.length) : fewB l = false := by
  have : l.all (fun x => decide (x.2.length ≤ 100)) = false := by
    rw [List.all_eq_false]
    exact ⟨x, List.mem_of_getElem? h, by simp; omega⟩
  simp [fewB, this]
theorem fewB_true {l : List Wr} (h : l.length ≤ 50) (ha : ∀ (j : Nat) (x : Wr), l[j]? = some x → x.2.length ≤ 100) : fewB l = true := by
  have : l.all (fun x => decide (x.2.length ≤ 100)) = true := by
    rw [List.all_eq_true]
    intro x hx
    obtain ⟨j, hj⟩ := List.getElem?_of_mem hx
    simpa using ha j x hj
  simp [fewB, this, h]
theorem fewB_out {l : List Wr} (h : fewB l = true) : l.length ≤ 50 ∧ ∀ (j : Nat) (x : Wr), l[j]? = some x → x.2.length ≤ 100 := by
  simp only [fewB, Bool.and_eq_true, decide_eq_true_eq, List.all_eq_true] at h
  exact ⟨h.1, fun j x hx => h.2 x (List.mem_of_getElem? hx)⟩
theorem smallB_out {ss : List (List UInt8)} (h : smallB ss = true) : ss.length ≤ 100 ∧ ∀ (j : Nat) (x : List UInt8), ss[j]? = some x → x.length ≤ 100 := by
  simp only [smallB, Bool.and_eq_true, decide_eq_true_eq, List.all_eq_true] at h
  exact ⟨h.1, fun j x hx => h.2 x (List.mem_of_getElem? hx)⟩
theorem small_sm {ss : List (List UInt8)} (h : smallB ss = true) : Sm ss := ⟨by have := (smallB_out h).1; omega, (smallB_out h).2⟩

end Go.Proofs.YtgeofnemlijbgaaDoor
