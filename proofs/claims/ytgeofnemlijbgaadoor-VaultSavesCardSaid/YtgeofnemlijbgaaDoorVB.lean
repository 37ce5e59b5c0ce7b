/- vault.dirty: the iterator over the sectors that have others than bytes 0. -/
import Derived.Test.YtgeofnemlijbgaaDoorVA
namespace Go.Proofs.YtgeofnemlijbgaaDoor
open Go.RowKit Go.Shelf
set_option linter.unusedVariables false
set_option linter.unusedSimpArgs false
attribute [local go_sem] Oper.semAt_some

theorem dirty_in (n : Nat) (A : Option Addr) (m c : Nat) (left torn : Int) (off : Bool) (done a b : Int) (w : World) :
    CallsIn Fence.wide n Tryd.prog 35 #[dv A m c left torn off done, .int .i64 a, .int .i64 b] w fun e w' => e = .returned (.func (.func 50) #[] #[.pointer (some ⟨w.heap.size + 1, 0, none⟩), .pointer (some ⟨w.heap.size + 1 + 1, 0, none⟩), .pointer (some ⟨w.heap.size, 0, none⟩)]) ∧
      w' = ((w.alloc (.cells #[.slice A m c, .int .i64 left, .int .i64 torn, .bool off, .int .i64 done] 24)).alloc (.cells #[.int .i64 a] 3)).alloc (.cells #[.int .i64 b] 3) := by
  refine callsIn_of_wp Tryd.func35 rfl trivial ?_ rfl
  simp only [Tryd.ntmps35, List.size_toArray, List.length_cons, List.length_nil, Nat.reduceAdd, Nat.reduceSub, Array.replicate_succ, Array.replicate_zero, List.push_toArray, List.append_toArray, List.nil_append, List.cons_append]
  gi_wp2
  go_ret
  exact ⟨rfl, rfl⟩

/-- What a round that goes on keeps: what lay below n₀, and two boxes. -/
def KpD (n₀ Bt Bd : Nat) (W W' : World) : Prop := Below n₀ W W' ∧ W'.heap[Bt]? = W.heap[Bt]? ∧ W'.heap[Bd]? = W.heap[Bd]?
theorem KpD.trans {n₀ Bt Bd : Nat} {A B C : World} (h : KpD n₀ Bt Bd A B) (h' : KpD n₀ Bt Bd B C) : KpD n₀ Bt Bd A C := ⟨h.1.trans h'.1, h'.2.1.trans h.2.1, h'.2.2.trans h.2.2⟩
theorem KpD.drew {n₀ Bt Bd : Nat} {A B : World} (h : KpD n₀ Bt Bd A B) : KpD n₀ Bt Bd A B.drew := ⟨h.1.drew, h.2⟩
theorem dts_yes {ss : List (List UInt8)} {a j : Nat} {l : List UInt8} (h : ss[a + j]? = some l) (hd : dirtyB l = true) : dts ss a (j + 1) = dts ss a j ++ [a + j] := by
  simp only [dts, List.getD_eq_getElem?_getD, h, Option.getD_some, hd, if_true]
theorem dts_no {ss : List (List UInt8)} {a j : Nat} {l : List UInt8} (h : ss[a + j]? = some l) (hd : dirtyB l = false) : dts ss a (j + 1) = dts ss a j := by
  simp [dts, List.getD_eq_getElem?_getD, h, hd]
theorem drew_grown (w : World) : w.grownBy w.drew none := ⟨rfl, rfl, rfl, Nat.le_refl _, fun _ _ _ => rfl⟩

set_option maxRecDepth 100000 in
set_option maxHeartbeats 2000000 in
theorem dirty1_in (n : Nat) (hn : 1 ≤ n) (l Bf Bt Bd n₀ : Nat) (A : Option Addr) (c : Nat) (d : Dsk) (a k : Nat) (hlen : a + k ≤ d.secs.length) (hck : checkB d.secs = true) (J Jx : List Nat → World → Prop)
    (W : World) (hJ : AbidesFrom W.heap.size J) (hn0 : n₀ ≤ W.heap.size)
    (hY : ∀ pre (x : Nat) W1, J pre W1 → pre.length < 2049 → YieldAt Fence.wide (n - 1) Tryd.prog l #[.int .i64 (x : Int)] W1 fun e W' =>
      (e = .returned (.bool true) ∧ J (pre ++ [x]) W' ∧ KpD n₀ Bt Bd W1 W') ∨ (e = .returned (.bool false) ∧ Jx (pre ++ [x]) W'))
    (hBf : W.cell? ⟨Bf, 0, none⟩ = some (.int .i64 (a : Int))) (hBt : W.cell? ⟨Bt, 0, none⟩ = some (.int .i64 ((a + k : Nat) : Int))) (hBd : W.cell? ⟨Bd, 0, none⟩ = some (.slice A d.secs.length c)) (hbt : Bt < W.heap.size) (hbd : Bd < W.heap.size)
    (hE : Bss W n₀ A d.secs.length d.secs) (h0 : J [] W) :
    CallsIn Fence.wide n Tryd.prog 50 #[.func (.yield l) #[] #[], .pointer (some ⟨Bf, 0, none⟩), .pointer (some ⟨Bt, 0, none⟩), .pointer (some ⟨Bd, 0, none⟩)] W fun e W' => (∃ v, e = .returned v) ∧
      ((∃ ys, ys = dts d.secs a k ∧ J ys W') ∨ (∃ pre, (∃ j, j ≤ k ∧ pre = dts d.secs a j) ∧ Jx pre W')) := by
  have hl2 := (checkB_len hck).2
  obtain ⟨ad, _, _, _, rfl, _⟩ := hE.at_ (k := 0) (by have := (checkB_len hck).1; omega)
  refine callsIn_of_wp Tryd.func50 rfl trivial ?_ rfl
  simp only [Tryd.ntmps50, List.size_toArray, List.length_cons, List.length_nil, Nat.reduceAdd, Nat.reduceSub, Array.replicate_succ, Array.replicate_zero, List.push_toArray, List.append_toArray, List.nil_append, List.cons_append]
  have HE := Lib.hid hE
  have HCK := Lib.hid hck
  clear hE hck
  gi_wp2
  gi_loopw [5] (fun i wr => ∃ (j : Nat) (ys : List Nat), j ≤ k ∧ i = .int .i64 ((a + j : Nat) : Int) ∧ ys = dts d.secs a j ∧ J ys wr ∧ KpD n₀ Bt Bd W wr ∧ W.heap.size ≤ wr.heap.size) (fun i _ => a + k - (intOf i).toNat)
  case atStart => exact ⟨0, [], Nat.zero_le _, rfl, rfl, h0, ⟨Below.refl _ _, rfl, rfl⟩, Nat.le_refl _⟩
  case round =>
    obtain ⟨j, ys, hj, rfl, hys, hJs, ⟨hB, hBt', hBd'⟩, hsz⟩ := hrel
    have HYS := Lib.hid hys
    have HB := Lib.hid hB
    have q2 : wr.cell? ⟨Bt, 0, none⟩ = some (.int .i64 ((a + k : Nat) : Int)) := (World.cell?_of_block (a := ⟨Bt, 0, none⟩) hBt').trans hBt
    have q3 : wr.cell? ⟨Bd, 0, none⟩ = some (.slice (some ad) d.secs.length c) := (World.cell?_of_block (a := ⟨Bd, 0, none⟩) hBd').trans hBd
    have HBT := Lib.hid hBt'
    have HBD := Lib.hid hBd'
    clear hys hB hBt' hBd'
    obtain ⟨x, hx⟩ : ∃ x, x = a + j := ⟨_, rfl⟩
    rw [← hx]
    by_cases hlt : j < k
    · obtain ⟨ad', As, cs, s, hAe, hb, hl, hc, hlc, hcm, hR⟩ := (HE.out.below HB.out).at_ (k := x) (by omega)
      injection hAe with hAe
      subst hAe
      have H64 := Lib.hid (show 0 < s.length by rw [checkB_at HCK.out hl]; decide)
      have HL := Lib.hid hl
      have HR := Lib.hid hR
      have HX := Lib.hid hx
      have hk0 : (0 : Int) ≤ (x : Int) := by omega
      have hk1 : (x : Int) < (d.secs.length : Int) := by omega
      have hk2 : decide ((x : Int) < ((a + k : Nat) : Int)) = true := decide_eq_true (by omega)
      have hk3 : (x : Int) < ((a + k : Nat) : Int) := by omega
      have hJ1 := hJ ys wr wr.drew none hJs (drew_grown wr) (fun r e => by cases e)
      have hyl : ys.length < 2049 := by rw [HYS.out]; have := dts_len d.secs a j; omega
      have HJ1 := Lib.hid hJ1
      obtain ⟨t, ht⟩ : ∃ t, t = ((a + k : Nat) : Int) := ⟨_, rfl⟩
      rw [← ht] at q2 hk2 hk3
      clear hl hR hx ht
      by_cases hdt : dirtyB s = true
      · obtain ⟨fn, tmps, assign, body, hy, hRr⟩ := hY ys x _ hJ1 hyl
        have HD := Lib.hid hdt
        have HRR := Lib.hid hRr
        clear hRr hJ1 hdt
        gi_wp2_with (refine ⟨trivial, ?_⟩; gi_at_call 51; refine (callsIn_wide.2 (trim0_any As cs s _ HR.out hlc hcm H64.out)).mono ?_; rintro e w3 ⟨⟨A3, m3, c3, rfl, hi3⟩, rfl⟩; have hm3 : 0 < m3 := hi3.2 (dirtyB_iff.1 HD.out); have hm4 : decide ((0 : Int) < (m3 : Int)) = true := decide_eq_true (by omega); clear hi3)
        refine HRR.out.mono ?_
        rintro e W3 (⟨rfl, hJ3, hk3'⟩ | ⟨rfl, hJx3⟩)
        · have HJ3 := Lib.hid hJ3
          have hB3 : Hid (KpD n₀ Bt Bd W W3) := Lib.hid ((KpD.drew ⟨HB.out, HBT.out, HBD.out⟩).trans hk3')
          have hs3 : W.heap.size ≤ W3.heap.size := by have h1 := hk3'.1.size; have h2 : wr.drew.heap.size = wr.heap.size := rfl; omega
          clear hJ3 hk3'
          gi_wp2
          go_roundw
          case rel => exact ⟨j + 1, ys ++ [x], by omega, by rw [HX.out]; go_num, by rw [HYS.out, dts_yes (by rw [← HX.out]; exact HL.out) HD.out, HX.out], HJ3.out, hB3.out, hs3⟩
          case measure => have hxx := HX.out; simp [intOf]; omega
        · gi_wp2
          refine bodyPost_ret (results_none rfl _ _ _) rfl ?_
          exact ⟨⟨_, rfl⟩, .inr ⟨_, ⟨j + 1, by omega, by rw [HYS.out, dts_yes (by rw [← HX.out]; exact HL.out) HD.out, HX.out]⟩, hJx3⟩⟩
      · have HD := Lib.hid (Bool.eq_false_iff.2 hdt)
        clear hdt
        gi_wp2_with (refine ⟨trivial, ?_⟩; gi_at_call 51; refine (callsIn_wide.2 (trim0_any As cs s _ HR.out hlc hcm H64.out)).mono ?_; rintro e w3 ⟨⟨A3, m3, c3, rfl, hi3⟩, rfl⟩; have hm3 : m3 = 0 := (by rcases Nat.eq_zero_or_pos m3 with h | h; exact h; have := dirtyB_iff.2 (hi3.1 h); rw [HD.out] at this; cases this); subst hm3; clear hi3)
        refine ⟨fun _ h => (by cases h), ?_⟩
        gi_wp2
        go_roundw
        case rel => exact ⟨j + 1, ys, by omega, by rw [HX.out]; go_num, by rw [HYS.out, dts_no (by rw [← HX.out]; exact HL.out) HD.out], HJ1.out, KpD.drew ⟨HB.out, HBT.out, HBD.out⟩, hsz⟩
        case measure => have hxx := HX.out; simp [intOf]; omega
    · have hjk : j = k := by omega
      subst hjk
      have hjn : ¬ (x : Int) < ((a + j : Nat) : Int) := by omega
      have hjn2 : decide ((x : Int) < ((a + j : Nat) : Int)) = false := decide_eq_false hjn
      gi_wp2
      go_end0
      exact ⟨⟨_, rfl⟩, .inl (by have hh := hJs; rw [HYS.out] at hh; exact hh)⟩
theorem dirty_stops (n : Nat) (hn : 1 ≤ n) (Bf Bt Bd n₀ : Nat) (A : Option Addr) (c : Nat) (d : Dsk) (a k : Nat) (hlen : a + k ≤ d.secs.length) (hck : checkB d.secs = true) (w : World) (hn0 : n₀ ≤ w.heap.size)
    (hBf : w.cell? ⟨Bf, 0, none⟩ = some (.int .i64 (a : Int))) (hBt : w.cell? ⟨Bt, 0, none⟩ = some (.int .i64 ((a + k : Nat) : Int))) (hBd : w.cell? ⟨Bd, 0, none⟩ = some (.slice A d.secs.length c)) (hbf : Bf < w.heap.size) (hbt : Bt < w.heap.size) (hbd : Bd < w.heap.size)
    (hE : Bss w n₀ A d.secs.length d.secs) :
    SeqStopsK Fence.wide n Tryd.prog 50 #[.pointer (some ⟨Bf, 0, none⟩), .pointer (some ⟨Bt, 0, none⟩), .pointer (some ⟨Bd, 0, none⟩)] (fun x : Nat => #[.int .i64 (x : Int)]) (KpD n₀ Bt Bd) (fun ys => ys = dts d.secs a k) (fun pre => ∃ j, j ≤ k ∧ pre = dts d.secs a j) 2049 w := fun l J Jx W hW hJ hJx hY h0 =>
  dirty1_in n hn l Bf Bt Bd n₀ A c d a k hlen hck J Jx W hJ (Nat.le_trans hn0 hW.size) hY ((hW.cell (p := ⟨Bf, 0, none⟩) hbf).trans hBf) ((hW.cell (p := ⟨Bt, 0, none⟩) hbt).trans hBt) ((hW.cell (p := ⟨Bd, 0, none⟩) hbd).trans hBd) (Nat.lt_of_lt_of_le hbt hW.size) (Nat.lt_of_lt_of_le hbd hW.size) (hE.below (hW.mono hn0)) h0
end Go.Proofs.YtgeofnemlijbgaaDoor
