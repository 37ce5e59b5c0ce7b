/- The document's Same, at two readings of one disk. -/
import Derived.Test.YtgeofnemlijbgaaDoorD1
import Derived.Deep.QuietTactic
import Derived.BigQuiet
import Derived.WalkSmall
namespace Go.Proofs.YtgeofnemlijbgaaDoor
open Go.RowKit
set_option linter.unusedVariables false

/-- string(b), b read as l. -/
theorem conv_rd {w : World} {B : Nat} {A : Option Addr} {l : List UInt8} (h : Rd w B A l.length (bvs l)) (c : Nat) : (convert 25 9 (.slice A l.length c)).run Tryd.prog w = .ok (.string ⟨l.toArray⟩) w := by
  rcases A with _ | ad
  · have hl : l = [] := by
      cases l with
      | nil => rfl
      | cons b t => obtain ⟨ad, h', _⟩ := h.2 (by simp); cases h'
    subst hl
    show Sem.run Tryd.prog (convert 25 9 (.slice none 0 c)) w = _
    rw [run_convert_bytes_string w _ _ 5 none 0 c Tryd.underlying25 Tryd.underlying5 Tryd.underlying9]
    simp [Conv.bytesToString]
    rfl
  · refine run_convert_bytes_back w _ _ 5 ad c l Tryd.underlying25 Tryd.underlying5 Tryd.underlying9 (fun j hj => ?_)
    obtain ⟨ad', e, _, hc⟩ := h.2 (by omega)
    injection e with e
    subst e
    exact hc j _ (bvs_get hj)
theorem Rd.drewN {w : World} {B n : Nat} {A : Option Addr} {xs : List Value} (h : Rd w B A n xs) (k : Nat) : Rd (w.drewN k) B A n xs := h

set_option maxRecDepth 100000 in
set_option maxHeartbeats 1000000 in
theorem same_eq (A A' : Option Addr) (c c' : Nat) (d : Dsk) (w : World) (hd : Bss w w.heap.size A d.secs.length d.secs) (hd' : Bss w w.heap.size A' d.secs.length d.secs) (hs : Sm d.secs) :
    Calls Tryd.prog 29 #[dvD A c d, dvD A' c' d] w fun e w' => e = .returned (.bool true) ∧ Below w.heap.size w w' := by
  obtain ⟨ss, left, torn, off, done⟩ := d
  dsimp only at hd hd' hs ⊢
  obtain ⟨n, hn⟩ : ∃ n, n = ss.length := ⟨_, rfl⟩
  have hn1 : n ≤ 2048 := by rw [hn]; exact hs.1
  have Hn := Lib.hid hn
  rw [dvD, dvD]
  simp only [← hn] at hd hd' ⊢
  have Hd := Lib.hid hd
  have Hd' := Lib.hid hd'
  clear hn hd hd'
  have t1 : ((n : Int) != (n : Int)) = false := by simp
  have t2 : (left != left) = false := by simp
  have t3 : (torn != torn) = false := by simp
  have t4 : (off != off) = false := by simp
  have t5 : (done != done) = false := by simp
  go_enter Tryd.func29, Tryd.ntmps29
  go_wp2
  have b0 : Blk ((w.alloc (.cells #[.slice A n c, .int .i64 left, .int .i64 torn, .bool off, .int .i64 done] 24)).alloc (.cells #[.slice A' n c', .int .i64 left, .int .i64 torn, .bool off, .int .i64 done] 24)) w.heap.size 24 #[.slice A n c, .int .i64 left, .int .i64 torn, .bool off, .int .i64 done] := (Blk.new w _ _).alloc _
  have b1 : Blk ((w.alloc (.cells #[.slice A n c, .int .i64 left, .int .i64 torn, .bool off, .int .i64 done] 24)).alloc (.cells #[.slice A' n c', .int .i64 left, .int .i64 torn, .bool off, .int .i64 done] 24)) (w.heap.size + 1) 24 #[.slice A' n c', .int .i64 left, .int .i64 torn, .bool off, .int .i64 done] := by simpa using Blk.new (w.alloc (.cells #[.slice A n c, .int .i64 left, .int .i64 torn, .bool off, .int .i64 done] 24)) 24 #[.slice A' n c', .int .i64 left, .int .i64 torn, .bool off, .int .i64 done]
  have hB := below_two w (.cells #[.slice A n c, .int .i64 left, .int .i64 torn, .bool off, .int .i64 done] 24) (.cells #[.slice A' n c', .int .i64 left, .int .i64 torn, .bool off, .int .i64 done] 24)
  generalize ((w.alloc (.cells #[.slice A n c, .int .i64 left, .int .i64 torn, .bool off, .int .i64 done] 24)).alloc (.cells #[.slice A' n c', .int .i64 left, .int .i64 torn, .bool off, .int .i64 done] 24)) = W0 at b0 b1 hB ⊢
  have c0 := b0.cell
  have c1 := b1.cell
  clear b0 b1
  go_loopw [5] (fun i wr => ∃ k m : Nat, k ≤ n ∧ i = .int .i64 k ∧ wr = W0.drewN m) (fun i _ => n - (intOf i).toNat)
  case atStart => exact ⟨0, 0, Nat.zero_le _, rfl, rfl⟩
  case round =>
    obtain ⟨k, m, hk, rfl, rfl⟩ := hrel
    by_cases hlt : k < n
    · obtain ⟨ad, Ai, ci, l, rfl, hb, hl, hc, h1, h2, h3⟩ := Hd.out.at_ hlt
      obtain ⟨ad', Ai', ci', l', rfl, hb', hl', hc', h1', h2', h3'⟩ := Hd'.out.at_ hlt
      rw [hl] at hl'
      injection hl' with hl'
      subst hl'
      have q1 := (hB.cell (p := ad.add k) (by rw [block_of_add]; exact hb)).trans hc
      have q2 := (hB.cell (p := ad'.add k) (by rw [block_of_add]; exact hb')).trans hc'
      have v1 : ∀ nq, (convert 25 9 (.slice Ai l.length ci)).run Tryd.prog (W0.drewN nq) = .ok (.string ⟨l.toArray⟩) (W0.drewN nq) := fun nq => conv_rd ((h3.below hB).drewN nq) ci
      have v2 : ∀ nq, (convert 25 9 (.slice Ai' l.length ci')).run Tryd.prog (W0.drewN nq) = .ok (.string ⟨l.toArray⟩) (W0.drewN nq) := fun nq => conv_rd ((h3'.below hB).drewN nq) ci'
      have k0 : (0 : Int) ≤ (k : Int) := by omega
      have k1 : (k : Int) < (n : Int) := by omega
      obtain ⟨S, hS⟩ : ∃ S : ByteArray, S = ⟨l.toArray⟩ := ⟨_, rfl⟩
      rw [← hS] at v1 v2
      have e1 : (S.toList != S.toList) = false := by simp
      clear hl hc hc' h1 h2 h3 h1' h2' h3' hS
      go_wp2
      go_quiet (fail)
      go_wp2
      go_roundw
      case rel => exact ⟨k + 1, _, by omega, by go_num, rfl⟩
      case measure => simp [intOf]; omega
    · go_wp2
      go_ret
      exact ⟨rfl, below_drewN hB _⟩
end Go.Proofs.YtgeofnemlijbgaaDoor
