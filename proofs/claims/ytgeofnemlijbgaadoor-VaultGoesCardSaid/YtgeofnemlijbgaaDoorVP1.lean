/- VaultGoes: saves one behind the other, as data. No program here. -/
import Derived.Test.YtgeofnemlijbgaaDoorVO0
namespace Go.Proofs.YtgeofnemlijbgaaDoor
open Go.RowKit
set_option linter.unusedVariables false

theorem readH_zeros (room : Int) : readH (zeros 64) room = none := by
  refine readH_none fun h => ?_
  have h2 := h.2.2.2
  have : (zeros 64)[0]? = (headL (seqOf (zeros 64)) (lenOf (zeros 64)))[0]? := by rw [← h2]
  simp [zeros, headL] at this
/-- Behind so many saves: the last number, or -1, and the last text. -/
structure GoesI (n j : Nat) (D : Dsk) (wt : Int) (lt : List UInt8) : Prop where
  ck : checkB D.secs = true
  on : OnD D
  len : D.secs.length = n
  lo : -1 ≤ wt
  hi : wt < j
  st : (wt = -1 ∧ newestD D = none ∧ lt = []) ∨ (∃ k m : Nat, wt = m ∧ Has D k m lt)
section
variable {n j : Nat} {D : Dsk} {wt : Int} {lt t : List UInt8}
theorem GoesI.full (h : GoesI n j D wt lt) (hj : j ≤ 10) (t : List UInt8) : fullD D t = decide (roomN n < t.length) := by
  have hm : maxD D = false := by
    unfold maxD
    rcases h.st with ⟨_, h1, _⟩ | ⟨k, m, h1, h2⟩
    · rw [h1]
    · rw [h2.new]
      have := h.hi
      simp
      omega
  unfold fullD
  rw [hm, Bool.false_or, h.len]
theorem GoesI.save (h : GoesI n j D wt lt) (hj : j ≤ 10) (hr : ¬ roomN n < t.length) : (saveD D t).2 = 0 ∧ GoesI n (j + 1) (saveD D t).1 (wt + 1) t := by
  have hf : fullD D t = false := by rw [h.full hj t]; exact decide_eq_false hr
  obtain ⟨s1, s2, s3, s4, s5⟩ := save_has h.ck h.on hf
  have hn : ((tgtD D).2 : Int) = wt + 1 := by
    unfold tgtD
    rcases h.st with ⟨h0, h1, _⟩ | ⟨k, m, h1, h2⟩
    · rw [h1, h0]; rfl
    · rw [h2.new, h1]; simp
  refine ⟨s1, ⟨s2.ck, s2.on, by rw [s3, h.len], by have := h.lo; omega, by have := h.hi; omega, .inr ⟨_, _, hn.symm, s2⟩⟩⟩
theorem GoesI.skip (h : GoesI n j D wt lt) (hj : j ≤ 10) (hr : roomN n < t.length) : saveD D t = (D, 180) ∧ GoesI n (j + 1) D wt lt := by
  have hf : fullD D t = true := by rw [h.full hj t]; exact decide_eq_true hr
  exact ⟨save_full h.ck hf, ⟨h.ck, h.on, h.len, h.lo, by have := h.hi; omega, h.st⟩⟩
theorem GoesI.load (h : GoesI n j D wt lt) : (wt < 0 → loadD D = ([], 0, 181)) ∧ (0 ≤ wt → loadD D = (lt, wt, 0)) := by
  rcases h.st with ⟨h0, h1, _⟩ | ⟨k, m, h1, h2⟩
  · exact ⟨fun _ => by unfold loadD; rw [h.ck, if_pos rfl, h1], fun h' => by omega⟩
  · exact ⟨fun h' => by omega, fun _ => by rw [h2.load, h1]⟩
end
theorem goes_new {n : Nat} (h4 : 4 ≤ n) (h5 : n ≤ 2048) : newD (n : Int) = (⟨List.replicate n (zeros 64), -1, 0, false, 0⟩, 0) ∧ GoesI n 0 ⟨List.replicate n (zeros 64), -1, 0, false, 0⟩ (-1) [] := by
  have e : newD (n : Int) = (⟨List.replicate n (zeros 64), -1, 0, false, 0⟩, 0) := by
    unfold newD
    rw [if_neg (by omega), Int.toNat_natCast]
  refine ⟨e, ?_⟩
  have hl : (List.replicate n (zeros 64)).length = n := List.length_replicate
  have hck : checkB (List.replicate n (zeros 64)) = true := checkB_true (by omega) (by omega) fun i l hi => by
    rw [List.eq_of_mem_replicate (List.mem_of_getElem? hi)]; exact zeros_length 64
  have hz : ∀ i, i < n → secN ⟨List.replicate n (zeros 64), -1, 0, false, 0⟩ i = zeros 64 := fun i hi => secN_of (by
    show (List.replicate n (zeros 64))[i]? = _
    rw [List.getElem?_replicate, if_pos hi])
  obtain ⟨g1, g2, g3, g4⟩ := halfD_eq (d := ⟨List.replicate n (zeros 64), -1, 0, false, 0⟩) hck
  have g3' : halfD ⟨List.replicate n (zeros 64), -1, 0, false, 0⟩ < n := Nat.lt_of_lt_of_eq g3 hl
  refine ⟨hck, ⟨rfl, rfl⟩, hl, by omega, by omega, .inl ⟨rfl, ?_, rfl⟩⟩
  unfold newestD head0 head1
  rw [hz 0 (by omega), hz _ g3', readH_zeros]
  rfl
end Go.Proofs.YtgeofnemlijbgaaDoor
