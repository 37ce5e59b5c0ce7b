/- The document's newest, Load. -/
import Derived.Test.YtgeofnemlijbgaaDoorVX3
import Derived.Test.YtgeofnemlijbgaaDoorVE1
import Derived.Test.YtgeofnemlijbgaaDoorVE5
namespace Go.Proofs.YtgeofnemlijbgaaDoor
open Go.RowKit
set_option linter.unusedVariables false
set_option linter.unusedSimpArgs false

theorem cnt_read {s : List UInt8} {rm : Int} (h64 : s.length = 64) : (∃ n m : Nat, readH s rm = some (n, m) ∧ cntV s rm = .tuple #[.int .i64 (n : Int), .int .i64 (m : Int), .bool true]) ∨ (readH s rm = none ∧ ∃ a b : Int, cntV s rm = .tuple #[.int .i64 a, .int .i64 b, .bool false]) := by
  unfold cntV
  by_cases h : seqOf s ≤ 4611686018427387903 ∧ (lenOf s : Int) ≤ rm
  · rw [if_pos h]
    by_cases he : headL (seqOf s) (lenOf s) = s
    · refine .inl ⟨seqOf s, lenOf s, ?_, by rw [decide_eq_true he]⟩
      unfold readH
      rw [if_pos ⟨h64, h.1, h.2, he.symm⟩]
    · refine .inr ⟨readH_none fun hh => he hh.2.2.2.symm, _, _, by rw [decide_eq_false he]⟩
  · rw [if_neg h]
    exact .inr ⟨readH_none fun hh => h ⟨hh.2.1, hh.2.2.1⟩, _, _, rfl⟩
/-- The newest area, its number, and its length; -1: none counts. -/
def rnV : Option (Nat × Nat × Nat) → Value
  | some (k, n, m) => .tuple #[.int .i64 (k : Int), .int .i64 (n : Int), .int .i64 (m : Int)]
  | none => .tuple #[.int .i64 (-1), .int .i64 (-1), .int .i64 0]
theorem sec_len {d : Dsk} (hck : checkB d.secs = true) {k : Nat} (hk : k ≤ 1) : (secN d (atD d k)).length = 64 := by
  obtain ⟨_, _, hh3, hh4⟩ := halfD_eq hck
  exact checkB_at hck (sec_at (by have := atD_le hck k; omega))

set_option maxRecDepth 100000 in
set_option maxHeartbeats 4000000 in
theorem rnewest_any (A : Option Addr) (c : Nat) (d : Dsk) (w : World) (hd : Bss w w.heap.size A d.secs.length d.secs) (h1 : d.secs.length ≤ c) (h2 : c ≤ maxLen) (hck : checkB d.secs = true) :
    Calls Tryd.prog 39 #[dvD A c d] w fun e w' => e = .returned (rnV (newestD d)) ∧ Below w.heap.size w w' := by
  have D0 := Lib.hid (DBox.arg hd h1 h2)
  have B0 := Lib.hid (below_one w (.cells #[.slice A d.secs.length c, .int .i64 d.left, .int .i64 d.torn, .bool d.off, .int .i64 d.done] 24))
  obtain ⟨q0, q1, q2, q3, q4⟩ := D0.out.cells
  have HCK := Lib.hid hck
  have hnew : newestD d = newV (readH (secN d (atD d 0)) (roomN d.secs.length)) (readH (secN d (atD d 1)) (roomN d.secs.length)) := rfl
  have C0 := cnt_read (rm := roomN d.secs.length) (sec_len hck (k := 0) (by omega))
  have C1 := cnt_read (rm := roomN d.secs.length) (sec_len hck (k := 1) (by omega))
  obtain ⟨V0, hV0⟩ : ∃ V, V = cntV (secN d (atD d 0)) (roomN d.secs.length) := ⟨_, rfl⟩
  obtain ⟨V1, hV1⟩ : ∃ V, V = cntV (secN d (atD d 1)) (roomN d.secs.length) := ⟨_, rfl⟩
  have HV0 := Lib.hid hV0
  have HV1 := Lib.hid hV1
  rw [← hV0] at C0
  rw [← hV1] at C1
  obtain ⟨r0, hr0⟩ : ∃ r, r = readH (secN d (atD d 0)) (roomN d.secs.length) := ⟨_, rfl⟩
  obtain ⟨r1, hr1⟩ : ∃ r, r = readH (secN d (atD d 1)) (roomN d.secs.length) := ⟨_, rfl⟩
  rw [← hr0] at C0 hnew
  rw [← hr1] at C1 hnew
  rw [hnew]
  clear hnew hr0 hr1 hV0 hV1 hd h1 h2 hck
  rcases C0 with ⟨n, m, rfl, rfl⟩ | ⟨rfl, a, b, rfl⟩
  · rcases C1 with ⟨n', m', rfl, rfl⟩ | ⟨rfl, a', b', rfl⟩
    · by_cases hlt : n < n'
      · have e : newV (some (n, m)) (some (n', m')) = some (1, n', m') := by simp [newV, hlt]
        rw [e]
        have t1 : decide ((n' : Int) ≤ (n : Int)) = false := decide_eq_false (by omega)
        have t2 : ¬ (n' : Int) ≤ (n : Int) := by omega
        clear e hlt
        go_enter Tryd.func39, Tryd.ntmps39
        go_wp2_with (first
            | (go_at_call 52; have _t := D1; refine (rcounts_any A c d 1 (by omega) _ D1.out.secs D1.out.cap D1.out.cm HCK.out).mono ?_; rw [← HV1.out]; rintro e w2 ⟨rfl, hB2⟩; have B2 := Lib.hid (keepB hB2 B1.out); clear hB2 q0 q1 q2 q3 q4)
            | (go_at_call 52; refine (rcounts_any A c d 0 (by omega) _ D0.out.secs D0.out.cap D0.out.cm HCK.out).mono ?_; rw [← HV0.out]; rintro e w1 ⟨rfl, hB1⟩; have D1 := Lib.hid (D0.out.after hB1); have B1 := Lib.hid (keepB hB1 B0.out); clear hB1 q0 q1 q2 q3 q4; obtain ⟨q0, q1, q2, q3, q4⟩ := D1.out.cells))
        refine bodyPost_ret (v := .tuple #[.int .i64 1, .int .i64 (n' : Int), .int .i64 (m' : Int)]) (by simp [results, Tryd.results39, go_sem]) rfl ?_
        exact ⟨rfl, B2.out⟩
      · have e : newV (some (n, m)) (some (n', m')) = some (0, n, m) := by simp [newV, hlt]
        rw [e]
        have t1 : decide ((n' : Int) ≤ (n : Int)) = true := decide_eq_true (by omega)
        have t2 : (n' : Int) ≤ (n : Int) := by omega
        clear e hlt
        go_enter Tryd.func39, Tryd.ntmps39
        go_wp2_with (first
            | (go_at_call 52; have _t := D1; refine (rcounts_any A c d 1 (by omega) _ D1.out.secs D1.out.cap D1.out.cm HCK.out).mono ?_; rw [← HV1.out]; rintro e w2 ⟨rfl, hB2⟩; have B2 := Lib.hid (keepB hB2 B1.out); clear hB2 q0 q1 q2 q3 q4)
            | (go_at_call 52; refine (rcounts_any A c d 0 (by omega) _ D0.out.secs D0.out.cap D0.out.cm HCK.out).mono ?_; rw [← HV0.out]; rintro e w1 ⟨rfl, hB1⟩; have D1 := Lib.hid (D0.out.after hB1); have B1 := Lib.hid (keepB hB1 B0.out); clear hB1 q0 q1 q2 q3 q4; obtain ⟨q0, q1, q2, q3, q4⟩ := D1.out.cells))
        refine bodyPost_ret (v := .tuple #[.int .i64 0, .int .i64 (n : Int), .int .i64 (m : Int)]) (by simp [results, Tryd.results39, go_sem]) rfl ?_
        exact ⟨rfl, B2.out⟩
    · show Calls _ _ _ _ fun e w' => e = .returned (rnV (some (0, n, m))) ∧ _
      go_enter Tryd.func39, Tryd.ntmps39
      go_wp2_with (first
          | (go_at_call 52; have _t := D1; refine (rcounts_any A c d 1 (by omega) _ D1.out.secs D1.out.cap D1.out.cm HCK.out).mono ?_; rw [← HV1.out]; rintro e w2 ⟨rfl, hB2⟩; have B2 := Lib.hid (keepB hB2 B1.out); clear hB2 q0 q1 q2 q3 q4)
          | (go_at_call 52; refine (rcounts_any A c d 0 (by omega) _ D0.out.secs D0.out.cap D0.out.cm HCK.out).mono ?_; rw [← HV0.out]; rintro e w1 ⟨rfl, hB1⟩; have D1 := Lib.hid (D0.out.after hB1); have B1 := Lib.hid (keepB hB1 B0.out); clear hB1 q0 q1 q2 q3 q4; obtain ⟨q0, q1, q2, q3, q4⟩ := D1.out.cells))
      refine bodyPost_ret (v := .tuple #[.int .i64 0, .int .i64 (n : Int), .int .i64 (m : Int)]) (by simp [results, Tryd.results39, go_sem]) rfl ?_
      exact ⟨rfl, B2.out⟩
  · rcases C1 with ⟨n', m', rfl, rfl⟩ | ⟨rfl, a', b', rfl⟩
    · show Calls _ _ _ _ fun e w' => e = .returned (rnV (some (1, n', m'))) ∧ _
      go_enter Tryd.func39, Tryd.ntmps39
      go_wp2_with (first
          | (go_at_call 52; have _t := D1; refine (rcounts_any A c d 1 (by omega) _ D1.out.secs D1.out.cap D1.out.cm HCK.out).mono ?_; rw [← HV1.out]; rintro e w2 ⟨rfl, hB2⟩; have B2 := Lib.hid (keepB hB2 B1.out); clear hB2 q0 q1 q2 q3 q4)
          | (go_at_call 52; refine (rcounts_any A c d 0 (by omega) _ D0.out.secs D0.out.cap D0.out.cm HCK.out).mono ?_; rw [← HV0.out]; rintro e w1 ⟨rfl, hB1⟩; have D1 := Lib.hid (D0.out.after hB1); have B1 := Lib.hid (keepB hB1 B0.out); clear hB1 q0 q1 q2 q3 q4; obtain ⟨q0, q1, q2, q3, q4⟩ := D1.out.cells))
      refine bodyPost_ret (v := .tuple #[.int .i64 1, .int .i64 (n' : Int), .int .i64 (m' : Int)]) (by simp [results, Tryd.results39, go_sem]) rfl ?_
      exact ⟨rfl, B2.out⟩
    · show Calls _ _ _ _ fun e w' => e = .returned (rnV none) ∧ _
      go_enter Tryd.func39, Tryd.ntmps39
      go_wp2_with (first
          | (go_at_call 52; have _t := D1; refine (rcounts_any A c d 1 (by omega) _ D1.out.secs D1.out.cap D1.out.cm HCK.out).mono ?_; rw [← HV1.out]; rintro e w2 ⟨rfl, hB2⟩; have B2 := Lib.hid (keepB hB2 B1.out); clear hB2 q0 q1 q2 q3 q4)
          | (go_at_call 52; refine (rcounts_any A c d 0 (by omega) _ D0.out.secs D0.out.cap D0.out.cm HCK.out).mono ?_; rw [← HV0.out]; rintro e w1 ⟨rfl, hB1⟩; have D1 := Lib.hid (D0.out.after hB1); have B1 := Lib.hid (keepB hB1 B0.out); clear hB1 q0 q1 q2 q3 q4; obtain ⟨q0, q1, q2, q3, q4⟩ := D1.out.cells))
      refine bodyPost_ret (v := .tuple #[.int .i64 (-1), .int .i64 (-1), .int .i64 0]) (by simp [results, Tryd.results39, go_sem]) rfl ?_
      exact ⟨rfl, B2.out⟩
/-- A call hands back bytes that read so, a number, and an error (the document's). -/
def RLRet (w : World) (r : List UInt8 × Int × Int) (e : Ending) (w' : World) : Prop :=
  ∃ A c, e = .returned (.tuple #[.slice A r.1.length c, .int .i64 r.2.1, .int .i64 r.2.2]) ∧ r.1.length ≤ c ∧ c ≤ maxLen ∧ Rd w' w'.heap.size A r.1.length (bvs r.1) ∧ Below w.heap.size w w'
set_option maxRecDepth 100000 in
set_option maxHeartbeats 4000000 in
theorem rload_any (A : Option Addr) (c : Nat) (d : Dsk) (w : World) (hd : Bss w w.heap.size A d.secs.length d.secs) (h1 : d.secs.length ≤ c) (h2 : c ≤ maxLen) (hs : Sm d.secs) :
    Calls Tryd.prog 20 #[dvD A c d] w (LRet w (loadD d)) := by
  obtain ⟨i2, hi2, hz2, hs2, hb2⟩ := info_parts infoTB
  have D0 := Lib.hid (DBox.arg hd h1 h2)
  have B0 := Lib.hid (below_one w (.cells #[.slice A d.secs.length c, .int .i64 d.left, .int .i64 d.torn, .bool d.off, .int .i64 d.done] 24))
  obtain ⟨q0, q1, q2, q3, q4⟩ := D0.out.cells
  have hml : d.secs.length ≤ maxLen := by have := hs.1; unfold maxLen; omega
  have HML := Lib.hid hml
  have HS := Lib.hid hs
  cases hck : checkB d.secs
  · have hl : loadD d = ([], 0, 1) := by unfold loadD; rw [hck]; rfl
    rw [hl]
    have HCK := Lib.hid hck
    clear hd h1 h2 hs hml hck hl
    go_enter Tryd.func20, Tryd.ntmps20
    go_wp2_with (go_at_call 38; refine (rcheck_any A d.secs.length c d.left d.torn d.off d.done d.secs _ D0.out.secs HML.out).mono ?_; rw [HCK.out]; rintro e w1 ⟨rfl, hB1⟩)
    refine bodyPost_ret (v := .tuple #[.slice none 0 0, .int .i64 0, .int .i64 1]) (by simp [results, Tryd.results20, go_sem]) rfl ?_
    exact ⟨none, 0, rfl, Nat.le_refl _, Nat.zero_le _, Rd.none_ _, keepB hB1 B0.out, fun ad h => by cases h⟩
  · have HCK := Lib.hid hck
    cases hn : newestD d with
    | none =>
      have hl : loadD d = ([], 0, 181) := by unfold loadD; rw [hck, if_pos rfl, hn]
      rw [hl]
      have HN := Lib.hid hn
      clear hd h1 h2 hs hml hck hl hn
      go_enter Tryd.func20, Tryd.ntmps20
      go_wp2_with (first
        | (go_at_call 38; refine (rcheck_any A d.secs.length c d.left d.torn d.off d.done d.secs _ D0.out.secs HML.out).mono ?_; rw [HCK.out]; rintro e w1 ⟨rfl, hB1⟩; have D1 := Lib.hid (D0.out.after hB1); have B1 := Lib.hid (keepB hB1 B0.out); clear hB1 q0 q1 q2 q3 q4; obtain ⟨q0, q1, q2, q3, q4⟩ := D1.out.cells)
        | (go_at_call 39; refine (rnewest_any A c d _ D1.out.secs D1.out.cap D1.out.cm HCK.out).mono ?_; rw [HN.out]; rintro e w2 ⟨rfl, hB2⟩; have B2 := Lib.hid (keepB hB2 B1.out); clear hB2 q0 q1 q2 q3 q4; dsimp only [rnV]))
      refine bodyPost_ret (v := .tuple #[.slice none 0 0, .int .i64 0, .int .i64 181]) (by simp [results, Tryd.results20, go_sem]) rfl ?_
      exact ⟨none, 0, rfl, Nat.le_refl _, Nat.zero_le _, Rd.none_ _, B2.out, fun ad h => by cases h⟩
    | some v =>
      obtain ⟨k, n, m⟩ := v
      have hl : loadD d = (((readD d (atD d k + 1 : Nat) (halfD d - 1 : Nat)).1).take m, (n : Int), 0) := by unfold loadD; rw [hck, if_pos rfl, hn]
      obtain ⟨hk1, hn1, hm1⟩ := newest_le hn
      obtain ⟨ho, he0, hrl⟩ := load_read hck hk1
      obtain ⟨g1, g2, g3, g4⟩ := halfD_eq hck
      have hlen := (checkB_len hck).2
      have l2 := atD_le hck k
      have har := areaN_at hck hk1
      rw [hl]
      obtain ⟨t, ht⟩ : ∃ t, t = (readD d (atD d k + 1 : Nat) (halfD d - 1 : Nat)).1 := ⟨_, rfl⟩
      have hrd : readD d (atD d k + 1 : Nat) (halfD d - 1 : Nat) = (t, 0) := by rw [ht, ← he0]
      rw [← ht] at hrl ⊢
      have hmt : m ≤ t.length := by omega
      have htl : t.length ≤ 200000 := by rw [room_half hck] at hrl; omega
      have hwa : IntKind.i64.wrap ((atD d k : Int) + 1) = ((atD d k + 1 : Nat) : Int) := (IntWalk.i64_in _ (by omega)).trans (by omega)
      have hwb : IntKind.i64.wrap ((halfD d : Int) - 1) = ((halfD d - 1 : Nat) : Int) := (IntWalk.i64_in _ (by omega)).trans (by omega)
      have hrr : -9223372036854775808 ≤ ((atD d k + 1 : Nat) : Int) ∧ ((atD d k + 1 : Nat) : Int) ≤ 9223372036854775807 := by omega
      have HRR := Lib.hid hrr
      have HRD := Lib.hid hrd
      have HAR := Lib.hid har
      have HN := Lib.hid hn
      have hm0 : (0 : Int) ≤ (m : Int) := by omega
      have HMT := Lib.hid hmt
      have HTL := Lib.hid htl
      obtain ⟨ka, hka⟩ : ∃ z : Nat, z = atD d k + 1 := ⟨_, rfl⟩
      obtain ⟨kb, hkb⟩ : ∃ z : Nat, z = halfD d - 1 := ⟨_, rfl⟩
      rw [← hka] at hwa HRR HRD
      rw [← hkb] at hwb HRD
      have hkn : ¬ (k : Int) < 0 := by omega
      have hkn2 : decide ((k : Int) < 0) = false := decide_eq_false hkn
      clear hd h1 h2 hs hml hck hl hn hk1 hn1 hm1 ho he0 hrl g1 g2 g3 g4 hlen l2 har ht hrd hrr hka hkb
      go_enter Tryd.func20, Tryd.ntmps20
      go_upto_region 9 with (first
        | (go_at_call 38; refine (rcheck_any A d.secs.length c d.left d.torn d.off d.done d.secs _ D0.out.secs HML.out).mono ?_; rw [HCK.out]; rintro e w1 ⟨rfl, hB1⟩; have D1 := Lib.hid (D0.out.after hB1); have B1 := Lib.hid (keepB hB1 B0.out); clear hB1 q0 q1 q2 q3 q4; obtain ⟨q0, q1, q2, q3, q4⟩ := D1.out.cells)
        | (go_at_call 39; refine (rnewest_any A c d _ D1.out.secs D1.out.cap D1.out.cm HCK.out).mono ?_; rw [HN.out]; rintro e w2 ⟨rfl, hB2⟩; have D2 := Lib.hid (D1.out.after hB2); have B2 := Lib.hid (keepB hB2 B1.out); clear hB2 q0 q1 q2 q3 q4; obtain ⟨q0, q1, q2, q3, q4⟩ := D2.out.cells; dsimp only [rnV])
        | (go_at_call 19; refine (rarea_any _ _ _).mono ?_; rw [HAR.out]; rintro e w3 ⟨rfl, hB3⟩; have D3 := Lib.hid (D2.out.after hB3); have B3 := Lib.hid (keepB hB3 B2.out); clear hB3 q0 q1 q2 q3 q4; obtain ⟨q0, q1, q2, q3, q4⟩ := D3.out.cells)
        | (go_at_call 40; refine (rread_any A c d (ka : Int) (kb : Int) _ D3.out.secs HS.out HRR.out.1 HRR.out.2).mono ?_; rw [HRD.out]; rintro e w4 ⟨v4, rfl, hO4, hB4⟩; have hw4 := hB4.size; have B4 := Lib.hid (keepB hB4 B3.out); clear hB4 q0 q1 q2 q3 q4))
      obtain ⟨A4, c4, rfl, e1, e2⟩ := own_form hO4
      have hcut := run_cut A4 t.length c4 (m : Int)
      have hmc : (m : Int) ≤ (c4 : Int) := by have := HMT.out; omega
      have hcut2 : ∀ w' : World, (Instr.slice 25 (.slice A4 t.length c4) none (some (.int .i64 (m : Int))) none).run Tryd.prog w' = .ok (.slice A4 m c4) w' := fun w' => by have := hcut w' hm0 hmc; rwa [Int.toNat_natCast] at this
      have B5 := bel_al (o := .cells #[] 5) B4.out
      have hown5 := own_empty w4 w.heap.size B4.out.size
      have hsz5 : w.heap.size ≤ (w4.alloc (.cells #[] 5)).heap.size := B5.size
      have HR5 := Lib.hid (show Rd (w4.alloc (.cells #[] 5)) (w4.alloc (.cells #[] 5)).heap.size A4 (m * 1) (bvs (t.take m)) by rw [Nat.mul_one]; exact begin_rd (((own_rd hO4).below (below_one w4 _)).more (below_one w4 _).size) HMT.out)
      have M1 := Lib.hid (show 0 + m ≤ maxLen by have := HMT.out; have := HTL.out; unfold maxLen; omega)
      have M2 := Lib.hid (show (0 + m) * 1 ≤ 140737488355328 by have := HMT.out; have := HTL.out; omega)
      clear hcut hO4 e1 e2
      go_wp2_with (at_builtin; refine wpList_append_any _ rfl (.tmp 42) (.tmp 45) 25 rfl w.heap.size 5 i2 (.int .u8 0) 1 1 Tryd.underlying25 hi2 hz2 hs2 hb2 rfl (by omega) (.slice (some ⟨w4.heap.size, 0, none⟩) 0 0) 0 [] rfl hown5 _ A4 m c4 (bvs (t.take m)) rfl HR5.out (bvs_one _) M1.out M2.out hsz5 ?_; intro v6 w6 hown6 hgr6 hat6; simp only [Nat.zero_add, List.nil_append] at hown6; have hB6 := B5.grown hgr6 B5.size (fun k e => by obtain ⟨_, _, h, _⟩ := own_block hown5 e; omega))
      refine bodyPost_ret (v := .tuple #[v6, .int .i64 (n : Int), .int .i64 0]) (by simp [results, Tryd.results20, go_sem]) rfl ?_
      have hmm : (t.take m).length = m := by rw [List.length_take]; have := HMT.out; omega
      obtain ⟨A6, c6, rfl, f1, f2⟩ := own_form hown6
      refine ⟨A6, c6, by rw [hmm], by rw [hmm]; exact f1, f2, by rw [hmm]; exact own_rd hown6, hB6, fun ad h => ?_⟩
      subst h
      rcases hown6.2 with ⟨h, _⟩ | ⟨g, cap, cur, h, hb, _⟩
      · cases h
      · injection h with h _ _
        injection h with h
        subst h
        exact hb
end Go.Proofs.YtgeofnemlijbgaaDoor
