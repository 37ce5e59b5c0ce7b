/- Arguments that came in, as the walks read them: bytes, rows of bytes, a disk, writes. -/
import Derived.Test.YtgeofnemlijbgaaDoorD5
import Derived.Deep.Slices
import Derived.Deep.Fields
import Derived.ChangeSame
import Derived.ProofKit
import Derived.OpenShut
namespace Go.Proofs.YtgeofnemlijbgaaDoor
open Go.ChangeShapes Go.WideShapes Go.RowKit Go.Deep
set_option linter.unusedVariables false
set_option maxRecDepth 100000

theorem ownK : ownKnob Tryd.prog.godebug = none := by kernel_rfl
theorem laidO : laidOutB Tryd.prog = true := by kernel_rfl

theorem bv_of {z : Int} (h : (Lit.int .u8 z).wf = true) : bv (UInt8.ofNat z.toNat) = .int .u8 z := by
  simp only [Lit.wf, Bool.and_eq_true, decide_eq_true_eq] at h
  have h1 : (0 : Int) ≤ z := h.1
  have h2 : z ≤ 255 := h.2
  unfold bv
  have : (UInt8.ofNat z.toNat).toNat = z.toNat := by rw [UInt8.toNat_ofNat']; omega
  rw [this]
  congr 1
  omega
theorem i64_of {z : Int} (h : (Lit.int .i64 z).wf = true) : -9223372036854775808 ≤ z ∧ z ≤ 9223372036854775807 := by
  simp only [Lit.wf, Bool.and_eq_true, decide_eq_true_eq] at h
  exact h
section
variable {H : Type} {enc : TypeId × Value → H} {w : World} {base fuel : Nat} {spare : Nat → Bool} {held : Bool} {cs : List Value} {x : DataW H × List MemPlace}

theorem open_bytes (h : DataW.trod enc Tryd.prog w base spare held fuel 25 cs = some x) : ∃ v l, cs = [v] ∧ Bs w w.heap.size v l := by
  rcases open_ints Tryd.underlying25 Tryd.underlying5 (by kernel_rfl) h with ⟨hcs, _⟩ | ⟨a, len, cap, zs, hcs, _, hl, hm, hz, _, hcell, hwf⟩
  · exact ⟨_, [], hcs, none, 0, rfl, Nat.le_refl _, Nat.zero_le _, Rd.none_ _⟩
  · have hlz : len ≤ zs.length := by rw [hz]; split <;> omega
    have hll : ((zs.take len).map fun z => UInt8.ofNat z.toNat).length = len := by simp; omega
    refine ⟨_, (zs.take len).map fun z => UInt8.ofNat z.toNat, hcs, some a, cap, by rw [hll], by rw [hll]; exact hl, hm, ?_⟩
    rw [hll]
    refine ⟨by rw [bvs_length, hll], fun hn => ⟨a, rfl, ?_, fun j u hu => ?_⟩⟩
    · have := block_lt_of_cell (hcell 0 (by omega))
      rwa [block_of_add] at this
    · have hj : j < len := by have := (List.getElem?_eq_some_iff.1 hu).1; rwa [bvs_length, hll] at this
      rw [hcell j (by omega)]
      rw [← hu]
      have e : zs.getD j 0 = zs[j]'(by omega) := by rw [List.getD_eq_getElem?_getD, List.getElem?_eq_getElem (by omega)]; rfl
      have hb := bv_of (hwf (zs[j]'(by omega)) (List.getElem_mem _))
      rw [e, ← hb]
      unfold bvs
      rw [List.map_map, List.getElem?_map, List.getElem?_take_of_lt hj, List.getElem?_eq_getElem (by omega)]
      rfl

theorem open_rows (h : DataW.trod enc Tryd.prog w base spare held fuel 22 cs = some x) : ∃ A n c ss, cs = [.slice A n c] ∧ n ≤ c ∧ c ≤ maxLen ∧ Bss w w.heap.size A n ss := by
  rcases open_slice1 Tryd.underlying22 (by kernel_rfl) h with ⟨hcs, _⟩ | ⟨a, len, cap, m, n, V, D, Pl, hcs, _, hl, hm, hmm, _, hx⟩
  · exact ⟨_, _, _, [], hcs, Nat.le_refl _, Nat.zero_le _, rfl, [], Rd.none_ _, fun i v hv => by simp at hv⟩
  · have hlm : len ≤ m := by rw [hmm]; split <;> omega
    obtain ⟨L, hL⟩ := choose_lt (α := List UInt8) (n := len) (p := fun i l => Bs w w.heap.size (V i) l) (fun i hi => by
      obtain ⟨v, l, hv, hb⟩ := open_bytes (hx i (by omega)).2
      injection hv with hv
      rw [← hv] at hb
      exact ⟨l, hb⟩)
    refine ⟨_, _, _, (List.range len).map L, hcs, hl, hm, by simp, (List.range len).map V, ⟨by simp, fun hn => ⟨a, rfl, ?_, fun j u hu => ?_⟩⟩, fun i v hv => ?_⟩
    · have := block_lt_of_cell (hx 0 (by omega)).1
      rwa [block_of_add] at this
    · have hj : j < len := by simpa using (List.getElem?_eq_some_iff.1 hu).1
      rw [(hx j (by omega)).1, ← hu]
      simp [hj]
    · have hi : i < len := by simpa using (List.getElem?_eq_some_iff.1 hv).1
      have e : V i = v := by simpa [hi] using hv
      subst e
      exact ⟨L i, by simp [hi], hL i hi⟩

theorem len2 {α : Type} (n : Nat) (f g : Nat → α) : ((List.range n).flatMap fun i => [f i, g i]).length = n * 2 := by
  induction n with
  | zero => simp
  | succ n ih => rw [List.range_succ, List.flatMap_append, List.length_append, ih]; simp; omega
theorem flat2 {α : Type} {n : Nat} {f g : Nat → α} {j : Nat} {u : α} : ((List.range n).flatMap fun i => [f i, g i])[j]? = some u ↔ ∃ i, i < n ∧ ((j = i * 2 ∧ u = f i) ∨ (j = i * 2 + 1 ∧ u = g i)) := by
  induction n with
  | zero => simp
  | succ n ih =>
    have hl : ((List.range n).flatMap fun i => [f i, g i]).length = n * 2 := len2 n f g
    rw [List.range_succ, List.flatMap_append]
    rcases Nat.lt_or_ge j (n * 2) with hj | hj
    · rw [List.getElem?_append_left (by omega), ih]
      constructor
      · rintro ⟨i, hi, h⟩; exact ⟨i, by omega, h⟩
      · rintro ⟨i, hi, h⟩; exact ⟨i, by omega, h⟩
    · rw [List.getElem?_append_right (by omega), hl]
      constructor
      · intro h
        rcases Nat.lt_or_ge (j - n * 2) 2 with h2 | h2
        · refine ⟨n, by omega, ?_⟩
          rcases Nat.lt_or_ge (j - n * 2) 1 with h1 | h1
          · have e : j - n * 2 = 0 := by omega
            rw [e] at h
            simp at h
            exact .inl ⟨by omega, h.symm⟩
          · have e : j - n * 2 = 1 := by omega
            rw [e] at h
            simp at h
            exact .inr ⟨by omega, h.symm⟩
        · rw [List.getElem?_eq_none (by simpa using h2)] at h
          cases h
      · rintro ⟨i, hi, ⟨h1, rfl⟩ | ⟨h1, rfl⟩⟩
        · obtain rfl : i = n := by omega
          have e : j - i * 2 = 0 := by omega
          rw [e]; simp
        · obtain rfl : i = n := by omega
          have e : j - i * 2 = 1 := by omega
          rw [e]; simp

theorem open_writes (h : DataW.trod enc Tryd.prog w base spare held fuel 32 cs = some x) : ∃ A n c l, cs = [.slice A n c] ∧ n ≤ c ∧ c ≤ maxLen ∧ Wrs w w.heap.size A n l ∧ ∀ y ∈ l, -9223372036854775808 ≤ y.1 ∧ y.1 ≤ 9223372036854775807 := by
  rcases open_slice Tryd.underlying32 h with ⟨hcs, _⟩ | ⟨a, len, cap, m, n, D, Pl, hcs, _, hl, hm, hmm, _, hx⟩
  · exact ⟨_, _, _, [], hcs, Nat.le_refl _, Nat.zero_le _, ⟨rfl, [], Rd.none_ _, fun i v hv => by simp at hv⟩, fun y hy => by simp at hy⟩
  · have hlm : len ≤ m := by rw [hmm]; split <;> omega
    have hC : Tryd.prog.cellsOf 60 = 2 := by kernel_rfl
    rw [hC] at hx
    obtain ⟨F, hF⟩ := choose_lt (α := Int × List UInt8 × Value) (n := len) (p := fun i y => w.cell? (a.add (i * 2)) = some (.int .i64 y.1) ∧ w.cell? (a.add (i * 2 + 1)) = some y.2.2 ∧ Bs w w.heap.size y.2.2 y.2.1 ∧ -9223372036854775808 ≤ y.1 ∧ y.1 ≤ 9223372036854775807) (fun i hi => by
      obtain ⟨cs', hc, ht⟩ := hx i (by omega)
      obtain ⟨_, hcl, hat⟩ := World.cells?_some hc
      obtain ⟨ys, n', _, _, _, hyl, hf⟩ := DataW.trod_struct Tryd.underlying60 ht
      match cs', hcl with
      | [c0, c1], _ =>
        have k0 : Tryd.prog.cellsOf 3 = 1 := by kernel_rfl
        have k1 : Tryd.prog.cellsOf 25 = 1 := by kernel_rfl
        have f0 : DataW.trod enc Tryd.prog w base spare held n' 3 (([c0, c1].drop 0).take (Tryd.prog.cellsOf 3)) = ys[0]? := hf 0 _ rfl
        have f1 : DataW.trod enc Tryd.prog w base spare held n' 25 (([c0, c1].drop 1).take (Tryd.prog.cellsOf 25)) = ys[1]? := hf 1 _ rfl
        rw [k0] at f0
        rw [k1] at f1
        rw [List.getElem?_eq_getElem (by rw [hyl]; decide)] at f0 f1
        obtain ⟨z, hz, _, hwf⟩ := DataW.trod_int Tryd.underlying3 f0
        obtain ⟨v, l, hv, hb⟩ := open_bytes f1
        injection hz with hz
        injection hv with hv
        subst hz
        subst hv
        have a0 := hat 0 (by omega)
        have a1 := hat 1 (by omega)
        rw [Go.Deep.add_add] at a0 a1
        exact ⟨(z, l, _), a0, a1, hb, i64_of hwf⟩)
    refine ⟨_, _, _, (List.range len).map fun i => ((F i).1, (F i).2.1), hcs, hl, hm, ⟨by simp, (List.range len).flatMap fun i => [.int .i64 (F i).1, (F i).2.2], ?_, fun i y hy => ?_⟩, fun y hy => ?_⟩
    · refine ⟨len2 len _ _, fun hn => ⟨a, rfl, ?_, fun j u hu => ?_⟩⟩
      · have := block_lt_of_cell (hF 0 (by omega)).1
        rwa [block_of_add] at this
      · rw [flat2] at hu
        obtain ⟨i, hi, ⟨rfl, rfl⟩ | ⟨rfl, rfl⟩⟩ := hu
        · exact (hF i hi).1
        · exact (hF i hi).2.1
    · have hi : i < len := by simpa using (List.getElem?_eq_some_iff.1 hy).1
      have e : ((F i).1, (F i).2.1) = y := by simpa [hi] using hy
      subst e
      exact ⟨flat2.2 ⟨i, hi, .inl ⟨rfl, rfl⟩⟩, _, flat2.2 ⟨i, hi, .inr ⟨rfl, rfl⟩⟩, (hF i hi).2.2.1⟩
    · obtain ⟨i, hi, rfl⟩ := List.mem_map.1 hy
      exact (hF i (List.mem_range.1 hi)).2.2.2

/-- A disk that came in. -/
theorem open_disk {r : Reach} {b0 : Nat} {v : Value} {d : DataW H} {p : List MemPlace} (hv : Value.okWide Tryd.prog w r b0 24 v) (h : DataW.Trod enc Tryd.prog w base spare held 24 v d p) :
    ∃ A c D, v = dvD A c D ∧ Bss w w.heap.size A D.secs.length D.secs ∧ D.secs.length ≤ c ∧ c ≤ maxLen ∧ (-9223372036854775808 ≤ D.left ∧ D.left ≤ 9223372036854775807) ∧ (-9223372036854775808 ≤ D.torn ∧ D.torn ≤ 9223372036854775807) ∧ (-9223372036854775808 ≤ D.done ∧ D.done ≤ 9223372036854775807) := by
  obtain ⟨cs, rfl, hsz⟩ := okWide_struct Tryd.underlying24 hv
  have hC : Tryd.prog.cellsOf 24 = 5 := by kernel_rfl
  obtain ⟨l⟩ := cs
  match l, hsz.trans hC with
  | [c0, c1, c2, c3, c4], _ =>
    obtain ⟨fuel, hf⟩ := h
    obtain ⟨ys, n, _, _, _, hyl, hg⟩ := DataW.trod_struct Tryd.underlying24 hf
    have k0 : Tryd.prog.cellsOf 3 = 1 := by kernel_rfl
    have k1 : Tryd.prog.cellsOf 22 = 1 := by kernel_rfl
    have k2 : Tryd.prog.cellsOf 4 = 1 := by kernel_rfl
    have f0 : DataW.trod enc Tryd.prog w base spare held n 22 (([c0, c1, c2, c3, c4].drop 0).take (Tryd.prog.cellsOf 22)) = ys[0]? := hg 0 _ rfl
    rw [k1] at f0
    have f1 : DataW.trod enc Tryd.prog w base spare held n 3 (([c0, c1, c2, c3, c4].drop 1).take (Tryd.prog.cellsOf 3)) = ys[1]? := hg 1 _ rfl
    rw [k0] at f1
    have f2 : DataW.trod enc Tryd.prog w base spare held n 3 (([c0, c1, c2, c3, c4].drop 2).take (Tryd.prog.cellsOf 3)) = ys[2]? := hg 2 _ rfl
    rw [k0] at f2
    have f3 : DataW.trod enc Tryd.prog w base spare held n 4 (([c0, c1, c2, c3, c4].drop 3).take (Tryd.prog.cellsOf 4)) = ys[3]? := hg 3 _ rfl
    rw [k2] at f3
    have f4 : DataW.trod enc Tryd.prog w base spare held n 3 (([c0, c1, c2, c3, c4].drop 4).take (Tryd.prog.cellsOf 3)) = ys[4]? := hg 4 _ rfl
    rw [k0] at f4
    rw [List.getElem?_eq_getElem (by rw [hyl]; decide)] at f0 f1 f2 f3 f4
    obtain ⟨A, m, c, ss, e0, h1, h2, hb⟩ := open_rows f0
    obtain ⟨z1, e1, _, w1⟩ := DataW.trod_int Tryd.underlying3 f1
    obtain ⟨z2, e2, _, w2⟩ := DataW.trod_int Tryd.underlying3 f2
    obtain ⟨z3, e3, _⟩ := DataW.trod_bool Tryd.underlying4 f3
    obtain ⟨z4, e4, _, w4⟩ := DataW.trod_int Tryd.underlying3 f4
    injection e0 with e0
    injection e1 with e1
    injection e2 with e2
    injection e3 with e3
    injection e4 with e4
    subst e0 e1 e2 e3 e4
    have hm := hb.1
    subst hm
    exact ⟨A, c, ⟨ss, z1, z2, z3, z4⟩, rfl, hb, h1, h2, i64_of w1, i64_of w2, i64_of w4⟩
end
end Go.Proofs.YtgeofnemlijbgaaDoor
