/- Contracts of the disk functions that only look. -/
import Derived.Test.YtgeofnemlijbgaaDoorRows
import Derived.Test.YtgeofnemlijbgaaDoorWords
import Derived.WalkKit
import Derived.WalkSpells
import Derived.WalkLawsBesides
import Derived.Lib.Hide
namespace Go.Proofs.YtgeofnemlijbgaaDoor
open Go.RowKit
set_option linter.unusedVariables false

/-- A disk, as plain data. -/
structure Dsk where
  secs : List (List UInt8)
  left : Int
  torn : Int
  off : Bool
  done : Int

/-- The value of a disk whose Sectors are '.slice A n c'. -/
abbrev dv (A : Option Addr) (n c : Nat) (left torn : Int) (off : Bool) (done : Int) : Value := .agg #[.slice A n c, .int .i64 left, .int .i64 torn, .bool off, .int .i64 done]

def smallB (ss : List (List UInt8)) : Bool := decide (ss.length ≤ 100) && ss.all fun l => decide (l.length ≤ 100)
def checkB (ss : List (List UInt8)) : Bool := decide (4 ≤ ss.length) && decide (ss.length ≤ 2048) && ss.all fun l => decide (l.length = 64)

theorem ret_b {a b : Bool} (h : a = b) : Ending.returned (.bool a) = .returned (.bool b) := by rw [h]
theorem smallB_false_len {ss : List (List UInt8)} (h : 100 < ss.length) : smallB ss = false := by
  have : decide (ss.length ≤ 100) = false := by simp; omega
  simp [smallB, this]
theorem smallB_false_at {ss : List (List UInt8)} {k : Nat} {l : List UInt8} (h : ss[k]? = some l) (hl : 100 < l.length) : smallB ss = false := by
  have : ss.all (fun l => decide (l.length ≤ 100)) = false := by
    rw [List.all_eq_false]
    exact ⟨l, List.mem_of_getElem? h, by simp; omega⟩
  simp [smallB, this]
theorem smallB_true {ss : List (List UInt8)} (h : ss.length ≤ 100) (ha : ∀ (j : Nat) (l : List UInt8), ss[j]? = some l → l.length ≤ 100) : smallB ss = true := by
  have : ss.all (fun l => decide (l.length ≤ 100)) = true := by
    rw [List.all_eq_true]
    intro l hl
    obtain ⟨j, hj⟩ := List.getElem?_of_mem hl
    simpa using ha j l hj
  simp [smallB, this, h]

set_option maxHeartbeats 400000 in
theorem small_any (A : Option Addr) (n c : Nat) (left torn : Int) (off : Bool) (done : Int) (ss : List (List UInt8)) (w : World) (hd : Bss w w.heap.size A n ss) :
    Calls Tryd.prog 10 #[dv A n c left torn off done] w fun e w' => e = .returned (.bool (smallB ss)) ∧ Below w.heap.size w w' := by
  by_cases hn : n ≤ 100
  · go_enter Tryd.func10, Tryd.ntmps10
    go_wp2
    go_loop [3] (fun i => ∃ k : Nat, k ≤ n ∧ i = .int .i64 k ∧ ∀ (j : Nat) (l : List UInt8), j < k → ss[j]? = some l → l.length ≤ 100) (fun i => n - (intOf i).toNat)
    case atStart => exact ⟨0, Nat.zero_le _, rfl, fun j l hj => absurd hj (by omega)⟩
    case round =>
      obtain ⟨k, hk, rfl, hall⟩ := hrel
      have H := Lib.hid hall
      clear hall
      by_cases hlt : k < n
      · obtain ⟨ad, Ai, ci, l, rfl, hb, hl, hc, h1, h2, h3⟩ := hd.at_ hlt
        have hc' := fun o => (World.cell?_alloc_lt w o (ad.add k) (by rw [block_of_add]; exact hb)).trans hc
        have HL := Lib.hid hl
        unfold maxLen at h2
        clear h3 hl hc
        go_wp2
        · go_ret
          exact ⟨ret_b (smallB_false_at HL.out (by omega)).symm, (Below.refl _ _).alloc (Nat.le_refl _) _⟩
        · go_round
          case rel =>
            refine ⟨k + 1, by omega, by go_num, fun j l' hj hl' => ?_⟩
            rcases Nat.lt_or_ge j k with h | h
            · exact H.out j l' h hl'
            · obtain rfl : j = k := by omega
              have := HL.out.symm.trans hl'
              simp at this
              subst this
              omega
          case measure => simp [intOf]; omega
      · go_wp2
        go_ret
        exact ⟨ret_b (smallB_true (by have := hd.1; omega) (fun j l hj => H.out j l (by have := hd.1; have := (List.getElem?_eq_some_iff.1 hj).1; omega) hj)).symm, (Below.refl _ _).alloc (Nat.le_refl _) _⟩
  · go_enter Tryd.func10, Tryd.ntmps10
    go_wp2
    go_ret
    exact ⟨ret_b (smallB_false_len (by have := hd.1; omega)).symm, (Below.refl _ _).alloc (Nat.le_refl _) _⟩

theorem checkB_false_len {ss : List (List UInt8)} (h : ss.length < 4 ∨ 2048 < ss.length) : checkB ss = false := by
  rcases h with h | h
  · have : decide (4 ≤ ss.length) = false := by simp; omega
    simp [checkB, this]
  · have : decide (ss.length ≤ 2048) = false := by simp; omega
    simp [checkB, this]
theorem checkB_false_at {ss : List (List UInt8)} {k : Nat} {l : List UInt8} (h : ss[k]? = some l) (hl : l.length ≠ 64) : checkB ss = false := by
  have : ss.all (fun l => decide (l.length = 64)) = false := by
    rw [List.all_eq_false]
    exact ⟨l, List.mem_of_getElem? h, by simpa using hl⟩
  simp [checkB, this]
theorem checkB_true {ss : List (List UInt8)} (h : 4 ≤ ss.length) (h' : ss.length ≤ 2048) (ha : ∀ (j : Nat) (l : List UInt8), ss[j]? = some l → l.length = 64) : checkB ss = true := by
  have : ss.all (fun l => decide (l.length = 64)) = true := by
    rw [List.all_eq_true]
    intro l hl
    obtain ⟨j, hj⟩ := List.getElem?_of_mem hl
    simpa using ha j l hj
  simp [checkB, this, h, h']
theorem checkB_len {ss : List (List UInt8)} (h : checkB ss = true) : 4 ≤ ss.length ∧ ss.length ≤ 2048 := by
  simp [checkB] at h; omega
theorem checkB_at {ss : List (List UInt8)} (h : checkB ss = true) {k : Nat} {l : List UInt8} (hl : ss[k]? = some l) : l.length = 64 := by
  simp [checkB] at h
  exact h.2 l (List.mem_of_getElem? hl)

set_option maxHeartbeats 400000 in
theorem check_any (A : Option Addr) (n c : Nat) (left torn : Int) (off : Bool) (done : Int) (ss : List (List UInt8)) (w : World) (hd : Bss w w.heap.size A n ss) (hm : n ≤ maxLen) :
    Calls Tryd.prog 11 #[dv A n c left torn off done] w fun e w' => e = .returned (.bool (checkB ss)) ∧ Below w.heap.size w w' := by
  unfold maxLen at hm
  by_cases hn : 4 ≤ n
  · by_cases hn2 : n ≤ 2048
    · go_enter Tryd.func11, Tryd.ntmps11
      go_wp2
      go_loop [18] (fun i => ∃ k : Nat, k ≤ n ∧ i = .int .i64 k ∧ ∀ (j : Nat) (l : List UInt8), j < k → ss[j]? = some l → l.length = 64) (fun i => n - (intOf i).toNat)
      case atStart => exact ⟨0, Nat.zero_le _, rfl, fun j l hj => absurd hj (by omega)⟩
      case round =>
        obtain ⟨k, hk, rfl, hall⟩ := hrel
        have H := Lib.hid hall
        clear hall
        by_cases hlt : k < n
        · obtain ⟨ad, Ai, ci, l, rfl, hb, hl, hc, h1, h2, h3⟩ := hd.at_ hlt
          have hc' := fun o => (World.cell?_alloc_lt w o (ad.add k) (by rw [block_of_add]; exact hb)).trans hc
          have HL := Lib.hid hl
          unfold maxLen at h2
          clear h3 hl hc
          by_cases h64 : l.length = 64
          · have h64' : ((l.length : Int) != 64) = false := by simp; omega
            have H64 := Lib.hid h64
            clear h64
            go_wp2
            go_round
            case rel =>
              refine ⟨k + 1, by omega, by go_num, fun j l' hj hl' => ?_⟩
              rcases Nat.lt_or_ge j k with h | h
              · exact H.out j l' h hl'
              · obtain rfl : j = k := by omega
                have := HL.out.symm.trans hl'
                simp at this
                subst this
                exact H64.out
            case measure => simp [intOf]; omega
          · have h64' : ((l.length : Int) != 64) = true := by simp; omega
            go_wp2
            go_ret
            exact ⟨ret_b (checkB_false_at HL.out h64).symm, (Below.refl _ _).alloc (Nat.le_refl _) _⟩
        · go_wp2
          go_ret
          exact ⟨ret_b (checkB_true (by have := hd.1; omega) (by have := hd.1; omega) (fun j l hj => H.out j l (by have := hd.1; have := (List.getElem?_eq_some_iff.1 hj).1; omega) hj)).symm, (Below.refl _ _).alloc (Nat.le_refl _) _⟩
    · go_enter Tryd.func11, Tryd.ntmps11
      go_wp2
      go_ret
      exact ⟨ret_b (checkB_false_len (by have := hd.1; omega)).symm, (Below.refl _ _).alloc (Nat.le_refl _) _⟩
  · go_enter Tryd.func11, Tryd.ntmps11
    go_wp2
    go_ret
    exact ⟨ret_b (checkB_false_len (by have := hd.1; omega)).symm, (Below.refl _ _).alloc (Nat.le_refl _) _⟩

set_option maxHeartbeats 400000 in
theorem refCheck_any (A : Option Addr) (n c : Nat) (left torn : Int) (off : Bool) (done : Int) (ss : List (List UInt8)) (w : World) (hd : Bss w w.heap.size A n ss) (hm : n ≤ maxLen) :
    Calls Tryd.prog 38 #[dv A n c left torn off done] w fun e w' => e = .returned (.bool (checkB ss)) ∧ Below w.heap.size w w' := by
  unfold maxLen at hm
  go_enter Tryd.func38, Tryd.ntmps38
  go_wp2
  go_loop [3] (fun i => ∃ k : Nat, k ≤ n ∧ i = .int .i64 k ∧ ∀ (j : Nat) (l : List UInt8), j < k → ss[j]? = some l → l.length = 64) (fun i => n - (intOf i).toNat)
  case atStart => exact ⟨0, Nat.zero_le _, rfl, fun j l hj => absurd hj (by omega)⟩
  case round =>
    obtain ⟨k, hk, rfl, hall⟩ := hrel
    have H := Lib.hid hall
    clear hall
    by_cases hlt : k < n
    · obtain ⟨ad, Ai, ci, l, rfl, hb, hl, hc, h1, h2, h3⟩ := hd.at_ hlt
      have hc' := fun o => (World.cell?_alloc_lt w o (ad.add k) (by rw [block_of_add]; exact hb)).trans hc
      have HL := Lib.hid hl
      unfold maxLen at h2
      clear h3 hl hc
      by_cases h64 : l.length = 64
      · have h64' : ((l.length : Int) != 64) = false := by simp; omega
        have H64 := Lib.hid h64
        clear h64
        go_wp2
        go_round
        case rel =>
          refine ⟨k + 1, by omega, by go_num, fun j l' hj hl' => ?_⟩
          rcases Nat.lt_or_ge j k with h | h
          · exact H.out j l' h hl'
          · obtain rfl : j = k := by omega
            have := HL.out.symm.trans hl'
            simp at this
            subst this
            exact H64.out
        case measure => simp [intOf]; omega
      · have h64' : ((l.length : Int) != 64) = true := by simp; omega
        go_wp2
        go_ret
        exact ⟨ret_b (checkB_false_at HL.out h64).symm, (Below.refl _ _).alloc (Nat.le_refl _) _⟩
    · by_cases hn : 4 ≤ n
      · by_cases hn2 : n ≤ 2048
        · go_wp2
          go_ret
          exact ⟨ret_b ((decide_eq_true (by omega)).trans (checkB_true (by have := hd.1; omega) (by have := hd.1; omega) (fun j l hj => H.out j l (by have := hd.1; have := (List.getElem?_eq_some_iff.1 hj).1; omega) hj)).symm), (Below.refl _ _).alloc (Nat.le_refl _) _⟩
        · go_wp2
          go_ret
          exact ⟨ret_b ((decide_eq_false (by omega)).trans (checkB_false_len (by have := hd.1; omega)).symm), (Below.refl _ _).alloc (Nat.le_refl _) _⟩
      · go_wp2
        go_ret
        exact ⟨ret_b (checkB_false_len (by have := hd.1; omega)).symm, (Below.refl _ _).alloc (Nat.le_refl _) _⟩
end Go.Proofs.YtgeofnemlijbgaaDoor
