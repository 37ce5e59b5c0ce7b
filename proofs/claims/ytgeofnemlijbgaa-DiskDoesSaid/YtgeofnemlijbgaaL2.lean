/- DiskDoes: the walk. -/
import Derived.Test.YtgeofnemlijbgaaL0
namespace Go.Proofs.Ytgeofnemlijbgaa
open Go.RowKit
set_option linter.unusedVariables false

set_option maxRecDepth 100000 in
set_option maxHeartbeats 2000000 in
theorem diskDoes_walk (A : Option Addr) (c : Nat) (d : Dsk) (Al : Option Addr) (nl cl : Nat) (l : List Wr) (w : World) (hd : Bss w w.heap.size A d.secs.length d.secs) (h1 : d.secs.length ≤ c) (h2 : c ≤ maxLen) (hl : Wrs w w.heap.size Al nl l) (hli : d.left ≤ 9223372036854775807) :
    Calls Try.prog 4 #[dvD A c d, .slice Al nl cl] w fun e w' => e = .returned (.bool true) ∧ Below w.heap.size w w' := by
  obtain ⟨dr, er, hr⟩ : ∃ dr er, doD d l = (dr, er) := ⟨_, _, rfl⟩
  have D0 := Lib.hid (DBox.arg hd h1 h2)
  have L0 := Lib.hid (wrs_after hl (below_one w (.cells #[.slice A d.secs.length c, .int .i64 d.left, .int .i64 d.torn, .bool d.off, .int .i64 d.done] 24)))
  have HR := Lib.hid hr
  have HLI := Lib.hid hli
  have HSR : smallB d.secs = true → Sm dr.secs := fun h => by have := small_wr l h; rw [hr] at this; exact this
  have HS2 := Lib.hid HSR
  have HN := Lib.hid hl.1
  clear hd hl hr h1 h2 hli HSR
  cases hsm : smallB d.secs
  · obtain ⟨ss, left, torn, off, done⟩ := d
    dsimp only at hsm D0 L0
    go_enter Try.func4, Try.ntmps4
    go_wp2_with (first
      | (go_at_call 8; refine (awake_any _).mono ?_; rintro e w1 ⟨rfl, hB1⟩; have d1 := Lib.hid (D0.out.after hB1); obtain ⟨qa0, qa1, qa2, qa3, qa4⟩ := d1.out.cells)
      | (go_at_call 9; refine (small_any A ss.length c left torn off done ss _ d1.out.secs).mono ?_; rintro e w2 ⟨rfl, hB2⟩))
    go_ret
    exact ⟨rfl, (keepB hB2 (keepB hB1 (below_one w _)))⟩
  · have hs := Lib.hid (sm_of_small hsm)
    have hs2 := Lib.hid (HS2.out hsm)
    cases hfw : fewB l
    · obtain ⟨ss, left, torn, off, done⟩ := d
      dsimp only at hsm D0 L0 hs
      go_enter Try.func4, Try.ntmps4
      go_wp2_with (first
        | (go_at_call 8; refine (awake_any _).mono ?_; rintro e w1 ⟨rfl, hB1⟩; have d1 := Lib.hid (D0.out.after hB1); have l1 := Lib.hid (wrs_after L0.out hB1); obtain ⟨qa0, qa1, qa2, qa3, qa4⟩ := d1.out.cells)
        | (go_at_call 9; refine (small_any A ss.length c left torn off done ss _ d1.out.secs).mono ?_; rintro e w2 ⟨rfl, hB2⟩)
        | (go_at_call 21; refine (few_any Al nl cl l _ (wrs_after l1.out hB2)).mono ?_; rintro e w3 ⟨rfl, hB3⟩))
      go_ret
      exact ⟨rfl, keepB hB3 (keepB hB2 (keepB hB1 (below_one w _)))⟩
    · have hn50 : nl ≤ 10000 := by have := (fewB_out hfw).1; have := HN.out; omega
      obtain ⟨ss, left, torn, off, done⟩ := d
      obtain ⟨tss, tleft, ttorn, toff, tdone⟩ := dr
      dsimp only at hsm D0 L0 hs hs2
      have ee : (er == er) = true := by simp
      go_enter Try.func4, Try.ntmps4
      go_wp2_with (first
        | (go_at_call 8; refine (awake_any _).mono ?_; rintro e w1 ⟨rfl, hB1⟩; have d1 := Lib.hid (D0.out.after hB1); have l1 := Lib.hid (wrs_after L0.out hB1); obtain ⟨qa0, qa1, qa2, qa3, qa4⟩ := d1.out.cells)
        | (go_at_call 9; refine (small_any A ss.length c left torn off done ss _ d1.out.secs).mono ?_; rintro e w2 ⟨rfl, hB2⟩; have l2 := Lib.hid (wrs_after l1.out hB2); have d2 := Lib.hid (d1.out.after hB2))
        | (go_at_call 21; refine (few_any Al nl cl l _ l2.out).mono ?_; rintro e w3 ⟨rfl, hB3⟩; have l3 := Lib.hid (wrs_after l2.out hB3); have d3 := Lib.hid (d2.out.after hB3); obtain ⟨qb0, qb1, qb2, qb3, qb4⟩ := d3.out.cells)
        | (go_at_call 22; refine (do_r HR.out d3.out.secs hs.out l3.out hn50 HLI.out).mono ?_; rintro e w4 ⟨A4, c4, vs4, rfl, hO4, hB4⟩; have l4 := Lib.hid (wrs_after (wrs_after l3.out hB4) (below_one w4 (.cells #[.slice A4 tss.length c4, .int .i64 tleft, .int .i64 ttorn, .bool toff, .int .i64 tdone] 24))); have d4 := Lib.hid ((d3.out.after hB4).alloc (.cells #[.slice A4 tss.length c4, .int .i64 tleft, .int .i64 ttorn, .bool toff, .int .i64 tdone] 24)); have x4 := Lib.hid (DBox.new hO4); obtain ⟨qc0, qc1, qc2, qc3, qc4⟩ := d4.out.cells)
        | (go_at_call 23; refine (rdo_r HR.out d4.out.secs hs.out l4.out hn50 HLI.out).mono ?_; rintro e w5 ⟨A5, c5, vs5, rfl, hO5, hB5⟩; have x5 := Lib.hid ((x4.out.after hB5).alloc (.cells #[.slice A5 tss.length c5, .int .i64 tleft, .int .i64 ttorn, .bool toff, .int .i64 tdone] 24)); have y5 := Lib.hid (DBox.new hO5); obtain ⟨qd0, qd1, qd2, qd3, qd4⟩ := x5.out.cells; obtain ⟨qe0, qe1, qe2, qe3, qe4⟩ := y5.out.cells)
        | (go_at_call 14; refine (same_eq A4 A5 c4 c5 ⟨tss, tleft, ttorn, toff, tdone⟩ _ x5.out.secs y5.out.secs hs2.out).mono ?_; rintro e w6 ⟨rfl, hB6⟩))
      go_ret
      exact ⟨rfl, keepB hB6 (bel_alloc (keepB hB5 (bel_alloc (keepB hB4 (keepB hB3 (keepB hB2 (keepB hB1 (below_one w _))))))))⟩
end Go.Proofs.Ytgeofnemlijbgaa
