/- vault.areas, Room, Area; the document's Area, Room. -/
import Derived.Test.YtgeofnemlijbgaaDoorD7
import Derived.RegionTactic
import Derived.BigQuiet
import Derived.Deep.QuietTactic
import Derived.IntWalk
namespace Go.Proofs.YtgeofnemlijbgaaDoor
open Go.RowKit
set_option linter.unusedVariables false

/-- How many sectors an area has. -/
def halfN (n : Int) : Int := if n < 4 ∨ 2048 < n then 0 else n / 2
abbrev areasV (h : Int) : Value := .agg #[.int .i64 0, .int .i64 h, .int .i64 h, .int .i64 h]
def roomN (n : Int) : Int := 64 * max (halfN n - 1) 0
def areaN (n k : Int) : Int × Int := if k = 0 then (0, halfN n) else if k = 1 then (halfN n, halfN n) else (0, 0)
theorem bel_al {W X : World} {o : Obj} (h : Below W.heap.size W X) : Below W.heap.size W (X.alloc o) := h.alloc h.size o
theorem bel_dr {W X : World} (h : Below W.heap.size W X) : Below W.heap.size W X.drew := h.drew
theorem keepB {W Wx w5 : World} (k : Below Wx.heap.size Wx w5) (h : Below W.heap.size W Wx) : Below W.heap.size W w5 := h.trans (k.mono h.size)
theorem halfN_rng (n : Int) : 0 ≤ halfN n ∧ halfN n ≤ 1024 := by unfold halfN; split <;> omega
theorem halfN_low {n : Int} (h : n < 4) : halfN n = 0 := if_pos (.inl h)
theorem halfN_high {n : Int} (h : 2048 < n) : halfN n = 0 := if_pos (.inr h)
theorem halfN_mid {n : Int} (h : 4 ≤ n) (h' : n ≤ 2048) : halfN n = n / 2 := if_neg (by omega)

set_option maxRecDepth 100000 in
set_option maxHeartbeats 1000000 in
theorem areas_any (n : Int) (w : World) :
    Calls Tryd.prog 36 #[.int .i64 n] w fun e w' => e = .returned (areasV (halfN n)) ∧ Below w.heap.size w w' := by
  by_cases h1 : n < 4
  · rw [halfN_low h1]
    have h1b : decide (n < 4) = true := decide_eq_true h1
    clear h1
    go_enter Tryd.func36, Tryd.ntmps36
    go_wp2
    refine bodyPost_ret (v := areasV 0) (by simp [results, Tryd.results36, go_sem]) rfl ?_
    exact ⟨rfl, below_one w _⟩
  · have h1b : decide (n < 4) = false := decide_eq_false h1
    by_cases h2 : 2048 < n
    · rw [halfN_high h2]
      have h2b : decide (2048 < n) = true := decide_eq_true h2
      clear h1 h2
      go_enter Tryd.func36, Tryd.ntmps36
      go_wp2
      refine bodyPost_ret (v := areasV 0) (by simp [results, Tryd.results36, go_sem]) rfl ?_
      exact ⟨rfl, below_one w _⟩
    · have h2b : decide (2048 < n) = false := decide_eq_false h2
      rw [halfN_mid (by omega) (by omega)]
      have hq : n.tdiv 2 = n / 2 := Int.tdiv_eq_ediv_of_nonneg (by omega)
      have hw : IntKind.i64.wrap (n / 2) = n / 2 := IntWalk.i64_in _ (by omega)
      go_enter Tryd.func36, Tryd.ntmps36
      go_wp2
      refine bodyPost_ret (v := areasV (n / 2)) (by simp [results, Tryd.results36, go_sem]) rfl ?_
      exact ⟨rfl, below_one w _⟩
theorem run_ix0 (h : Int) (w : World) : (Instr.index 63 (areasV h) (.int .i64 0)).run Tryd.prog w = .ok (.agg #[.int .i64 0, .int .i64 h]) w := by kernel_rfl
theorem run_ix1 (h : Int) (w : World) : (Instr.index 63 (areasV h) (.int .i64 1)).run Tryd.prog w = .ok (.agg #[.int .i64 h, .int .i64 h]) w := by kernel_rfl
theorem run_fld1 (x h : Int) (w : World) : (Instr.field 62 (.agg #[.int .i64 x, .int .i64 h]) 1).run Tryd.prog w = .ok (.int .i64 h) w := by kernel_rfl
theorem run_max_l {P : Program} (ts : Array TypeId) (t : TypeId) (k k' : IntKind) (x y : Int) (w : World) (h : ¬ x < y) : (Builtin.max_ ts t #[.int k x, .int k' y]).run P w = .ok (.int k x) w := by
  have := run_max_int2 (P := P) w ts t k k' x y
  rwa [if_neg h] at this
theorem run_max_r {P : Program} (ts : Array TypeId) (t : TypeId) (k k' : IntKind) (x y : Int) (w : World) (h : x < y) : (Builtin.max_ ts t #[.int k x, .int k' y]).run P w = .ok (.int k y) w := by
  have := run_max_int2 (P := P) w ts t k k' x y
  rwa [if_pos h] at this
attribute [local go_sem high] run_max_l run_max_r run_ix0 run_ix1 run_fld1

set_option maxRecDepth 100000 in
set_option maxHeartbeats 1000000 in
theorem room_any (n : Int) (w : World) :
    Calls Tryd.prog 17 #[.int .i64 n] w fun e w' => e = .returned (.int .i64 (roomN n)) ∧ Below w.heap.size w w' := by
  obtain ⟨r0, r1⟩ := halfN_rng n
  obtain ⟨h, hh⟩ : ∃ h, h = halfN n := ⟨_, rfl⟩
  have hr : roomN n = 64 * max (h - 1) 0 := by rw [hh]; rfl
  rw [hr]
  rw [← hh] at r0 r1
  have HH := Lib.hid hh
  clear hr hh
  by_cases h1 : h - 1 < 0
  · have hm : max (h - 1) 0 = 0 := by omega
    have hw : IntKind.i64.wrap (h - 1) = h - 1 := IntWalk.i64_in _ (by omega)
    rw [hm]
    clear hm
    go_enter Tryd.func17, Tryd.ntmps17
    go_wp2_with (go_at_call 36; refine (areas_any n _).mono ?_; rw [← HH.out]; rintro e w1 ⟨rfl, hB1⟩)
    go_ret
    exact ⟨rfl, hB1⟩
  · have hm : max (h - 1) 0 = h - 1 := by omega
    have hw : IntKind.i64.wrap (h - 1) = h - 1 := IntWalk.i64_in _ (by omega)
    have hw2 : IntKind.i64.wrap (64 * (h - 1)) = 64 * (h - 1) := IntWalk.i64_in _ (by omega)
    rw [hm]
    clear hm
    go_enter Tryd.func17, Tryd.ntmps17
    go_wp2_with (go_at_call 36; refine (areas_any n _).mono ?_; rw [← HH.out]; rintro e w1 ⟨rfl, hB1⟩)
    go_ret
    exact ⟨rfl, hB1⟩

set_option maxRecDepth 100000 in
set_option maxHeartbeats 1000000 in
theorem area_any (n k : Int) (w : World) :
    Calls Tryd.prog 15 #[.int .i64 n, .int .i64 k] w fun e w' => e = .returned (.tuple #[.int .i64 (areaN n k).1, .int .i64 (areaN n k).2]) ∧ Below w.heap.size w w' := by
  obtain ⟨h, hh⟩ : ∃ h, h = halfN n := ⟨_, rfl⟩
  have HH := Lib.hid hh
  by_cases k0 : k < 0
  · have ha : areaN n k = (0, 0) := by unfold areaN; rw [if_neg (by omega), if_neg (by omega)]
    have k0b : decide (k < 0) = true := decide_eq_true k0
    rw [ha]
    clear k0 hh
    go_enter Tryd.func15, Tryd.ntmps15
    go_wp2
    go_ret2
    exact ⟨rfl, Below.refl _ _⟩
  · have k0b : decide (k < 0) = false := decide_eq_false k0
    by_cases k1 : 1 < k
    · have ha : areaN n k = (0, 0) := by unfold areaN; rw [if_neg (by omega), if_neg (by omega)]
      have k1b : decide (1 < k) = true := decide_eq_true k1
      rw [ha]
      clear k0 k1 hh
      go_enter Tryd.func15, Tryd.ntmps15
      go_wp2
      go_ret2
      exact ⟨rfl, Below.refl _ _⟩
    · have hk : k = 0 ∨ k = 1 := by omega
      have k1b : decide (1 < k) = false := decide_eq_false k1
      rcases hk with rfl | rfl
      · have ha : areaN n 0 = (0, h) := by unfold areaN; rw [if_pos rfl, hh]
        rw [ha]
        clear ha hh k0 k1 k0b k1b
        go_enter Tryd.func15, Tryd.ntmps15
        go_wp2_with (go_at_call 36; refine (areas_any n _).mono ?_; rw [← HH.out]; rintro e w1 ⟨rfl, hB1⟩)
        go_region
        all_goals
          go_wp2
          go_ret2
          exact ⟨rfl, bel_dr (bel_al hB1)⟩
      · have ha : areaN n 1 = (h, h) := by unfold areaN; rw [if_neg (by decide), if_pos rfl, hh]
        rw [ha]
        clear ha hh k0 k1 k0b k1b
        go_enter Tryd.func15, Tryd.ntmps15
        go_wp2_with (go_at_call 36; refine (areas_any n _).mono ?_; rw [← HH.out]; rintro e w1 ⟨rfl, hB1⟩)
        go_region
        all_goals
          go_wp2
          go_ret2
          exact ⟨rfl, bel_dr (bel_al hB1)⟩
/-- The document's. -/
theorem areaN_out {n k : Int} (h : n < 4 ∨ 2048 < n ∨ k < 0 ∨ 1 < k) : areaN n k = (0, 0) := by
  unfold areaN
  rcases h with h | h | h | h
  · rw [halfN_low h]; split <;> simp
  · rw [halfN_high h]; split <;> simp
  · rw [if_neg (by omega), if_neg (by omega)]
  · rw [if_neg (by omega), if_neg (by omega)]
set_option maxRecDepth 100000 in
set_option maxHeartbeats 1000000 in
theorem rarea_any (n k : Int) (w : World) :
    Calls Tryd.prog 19 #[.int .i64 n, .int .i64 k] w fun e w' => e = .returned (.tuple #[.int .i64 (areaN n k).1, .int .i64 (areaN n k).2]) ∧ Below w.heap.size w w' := by
  by_cases h1 : n < 4
  · rw [areaN_out (.inl h1)]
    have h1b : decide (n < 4) = true := decide_eq_true h1
    clear h1
    go_enter Tryd.func19, Tryd.ntmps19
    go_wp2
    go_ret2
    exact ⟨rfl, Below.refl _ _⟩
  · have h1b : decide (n < 4) = false := decide_eq_false h1
    by_cases h2 : 2048 < n
    · rw [areaN_out (.inr (.inl h2))]
      have h2b : decide (2048 < n) = true := decide_eq_true h2
      clear h1 h2
      go_enter Tryd.func19, Tryd.ntmps19
      go_wp2
      go_ret2
      exact ⟨rfl, Below.refl _ _⟩
    · have h2b : decide (2048 < n) = false := decide_eq_false h2
      by_cases k0 : k < 0
      · rw [areaN_out (.inr (.inr (.inl k0)))]
        have k0b : decide (k < 0) = true := decide_eq_true k0
        clear k0 h1 h2
        go_enter Tryd.func19, Tryd.ntmps19
        go_wp2
        go_ret2
        exact ⟨rfl, Below.refl _ _⟩
      · have k0b : decide (k < 0) = false := decide_eq_false k0
        by_cases k1 : 1 < k
        · rw [areaN_out (.inr (.inr (.inr k1)))]
          have k1b : decide (1 < k) = true := decide_eq_true k1
          clear k0 k1 h1 h2
          go_enter Tryd.func19, Tryd.ntmps19
          go_wp2
          go_ret2
          exact ⟨rfl, Below.refl _ _⟩
        · have hq : n.tdiv 2 = n / 2 := Int.tdiv_eq_ediv_of_nonneg (by omega)
          have hw : IntKind.i64.wrap (n / 2) = n / 2 := IntWalk.i64_in _ (by omega)
          have hk : k = 0 ∨ k = 1 := by omega
          have hh : halfN n = n / 2 := halfN_mid (by omega) (by omega)
          rcases hk with rfl | rfl
          · have ha : areaN n 0 = (0, n / 2) := by unfold areaN; rw [if_pos rfl, hh]
            rw [ha]
            clear ha hh k0 k1 k0b
            go_enter Tryd.func19, Tryd.ntmps19
            go_wp2
            go_ret2
            exact ⟨rfl, Below.refl _ _⟩
          · have ha : areaN n 1 = (n / 2, n / 2) := by unfold areaN; rw [if_neg (by decide), if_pos rfl, hh]
            rw [ha]
            clear ha hh k0 k1 k0b
            go_enter Tryd.func19, Tryd.ntmps19
            go_wp2
            go_ret2
            exact ⟨rfl, Below.refl _ _⟩
theorem roomN_eq (n : Int) : roomN n = if halfN n = 0 then 0 else 64 * (halfN n - 1) := by
  obtain ⟨r0, r1⟩ := halfN_rng n
  unfold roomN
  split <;> omega
set_option maxRecDepth 100000 in
set_option maxHeartbeats 1000000 in
theorem rroom_any (n : Int) (w : World) :
    Calls Tryd.prog 25 #[.int .i64 n] w fun e w' => e = .returned (.int .i64 (roomN n)) ∧ Below w.heap.size w w' := by
  obtain ⟨r0, r1⟩ := halfN_rng n
  have ha : areaN n 0 = (0, halfN n) := by unfold areaN; rw [if_pos rfl]
  have HA := Lib.hid ha
  rw [roomN_eq]
  clear ha
  obtain ⟨h, hh⟩ : ∃ h, h = halfN n := ⟨_, rfl⟩
  rw [← hh] at r0 r1 HA ⊢
  clear hh
  by_cases h0 : h = 0
  · subst h0
    rw [if_pos rfl]
    go_enter Tryd.func25, Tryd.ntmps25
    go_wp2_with (go_at_call 19; refine (rarea_any n 0 _).mono ?_; rw [HA.out]; rintro e w1 ⟨rfl, hB1⟩)
    go_ret
    exact ⟨rfl, hB1⟩
  · rw [if_neg h0]
    have h0b : (h == 0) = false := by rw [beq_eq_false_iff_ne]; exact h0
    have hw : IntKind.i64.wrap (h - 1) = h - 1 := IntWalk.i64_in _ (by omega)
    have hw2 : IntKind.i64.wrap (64 * (h - 1)) = 64 * (h - 1) := IntWalk.i64_in _ (by omega)
    go_enter Tryd.func25, Tryd.ntmps25
    go_wp2_with (go_at_call 19; refine (rarea_any n 0 _).mono ?_; rw [HA.out]; rintro e w1 ⟨rfl, hB1⟩)
    go_ret
    exact ⟨rfl, hB1⟩
end Go.Proofs.YtgeofnemlijbgaaDoor
