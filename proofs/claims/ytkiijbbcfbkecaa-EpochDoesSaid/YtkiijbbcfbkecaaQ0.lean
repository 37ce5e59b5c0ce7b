/- Arguments that came in, as the walks read them: bytes, rows of bytes, a book, steps. -/
import Derived.Test.YtkiijbbcfbkecaaF3
import Derived.Test.YtkiijbbcfbkecaaM3
import Derived.Deep.Slices
import Derived.Deep.Fields
import Derived.ChangeSame
import Derived.ProofKit
import Derived.OpenShut
namespace Go.Proofs.Ytkiijbbcfbkecaa
open Go.ChangeShapes Go.WideShapes Go.RowKit Go.Deep
set_option linter.unusedVariables false

instance : Inhabited Ent := ⟨⟨[], [], 0, 0, false⟩⟩
instance : Inhabited Stp := ⟨⟨0, [], [], 0⟩⟩
theorem ownK : ownKnob Try.prog.godebug = none := by kernel_rfl
theorem laidO : laidOutB Try.prog = true := by kernel_rfl

theorem bv_of {z : Int} (h : (Lit.int .u8 z).wf = true) : bv (UInt8.ofNat z.toNat) = .int .u8 z := by
  simp only [Lit.wf, Bool.and_eq_true, decide_eq_true_eq] at h
  have h1 : (0 : Int) ≤ z := h.1
  have h2 : z ≤ 255 := h.2
  unfold bv
  have : (UInt8.ofNat z.toNat).toNat = z.toNat := by rw [UInt8.toNat_ofNat']; omega
  rw [this]
  congr 1
  omega
theorem i64_of {z : Int} (h : (Lit.int .i64 z).wf = true) : -9223372036854775808 ≤ z ∧ z ≤ 9223372036854775807 := by
  simp only [Lit.wf, Bool.and_eq_true, decide_eq_true_eq] at h
  exact h
section
variable {H : Type} {enc : TypeId × Value → H} {w : World} {base fuel : Nat} {spare : Nat → Bool} {held : Bool} {cs : List Value} {x : DataW H × List MemPlace}

theorem open_bytes (h : DataW.trod enc Try.prog w base spare held fuel 26 cs = some x) : ∃ v l, cs = [v] ∧ Bs w w.heap.size v l := by
  rcases open_ints Try.underlying26 Try.underlying5 (by kernel_rfl) h with ⟨hcs, _⟩ | ⟨a, len, cap, zs, hcs, _, hl, hm, hz, _, hcell, hwf⟩
  · exact ⟨_, [], hcs, none, 0, rfl, Nat.le_refl _, Nat.zero_le _, Rd.none_ _⟩
  · have hlz : len ≤ zs.length := by rw [hz]; split <;> omega
    have hll : ((zs.take len).map fun z => UInt8.ofNat z.toNat).length = len := by simp; omega
    refine ⟨_, (zs.take len).map fun z => UInt8.ofNat z.toNat, hcs, some a, cap, by rw [hll], by rw [hll]; exact hl, hm, ?_⟩
    rw [hll]
    refine ⟨by rw [bvs_length, hll], fun hn => ⟨a, rfl, ?_, fun j u hu => ?_⟩⟩
    · have := block_lt_of_cell (hcell 0 (by omega))
      rwa [block_of_add] at this
    · have hj : j < len := by have := (List.getElem?_eq_some_iff.1 hu).1; rwa [bvs_length, hll] at this
      rw [hcell j (by omega)]
      rw [← hu]
      have e : zs.getD j 0 = zs[j]'(by omega) := by rw [List.getD_eq_getElem?_getD, List.getElem?_eq_getElem (by omega)]; rfl
      have hb := bv_of (hwf (zs[j]'(by omega)) (List.getElem_mem _))
      rw [e, ← hb]
      unfold bvs
      rw [List.map_map, List.getElem?_map, List.getElem?_take_of_lt hj, List.getElem?_eq_getElem (by omega)]
      rfl

theorem open_rows (h : DataW.trod enc Try.prog w base spare held fuel 51 cs = some x) : ∃ A n c ss, cs = [.slice A n c] ∧ n ≤ c ∧ c ≤ maxLen ∧ Bss w w.heap.size A n ss := by
  rcases open_slice1 Try.underlying51 (by kernel_rfl) h with ⟨hcs, _⟩ | ⟨a, len, cap, m, n, V, D, Pl, hcs, _, hl, hm, hmm, _, hx⟩
  · exact ⟨_, _, _, [], hcs, Nat.le_refl _, Nat.zero_le _, rfl, [], Rd.none_ _, fun i v hv => by simp at hv⟩
  · have hlm : len ≤ m := by rw [hmm]; split <;> omega
    obtain ⟨L, hL⟩ := choose_lt (α := List UInt8) (n := len) (p := fun i l => Bs w w.heap.size (V i) l) (fun i hi => by
      obtain ⟨v, l, hv, hb⟩ := open_bytes (hx i (by omega)).2
      injection hv with hv
      rw [← hv] at hb
      exact ⟨l, hb⟩)
    refine ⟨_, _, _, (List.range len).map L, hcs, hl, hm, by simp, (List.range len).map V, ⟨by simp, fun hn => ⟨a, rfl, ?_, fun j u hu => ?_⟩⟩, fun i v hv => ?_⟩
    · have := block_lt_of_cell (hx 0 (by omega)).1
      rwa [block_of_add] at this
    · have hj : j < len := by simpa using (List.getElem?_eq_some_iff.1 hu).1
      rw [(hx j (by omega)).1, ← hu]
      simp [hj]
    · have hi : i < len := by simpa using (List.getElem?_eq_some_iff.1 hv).1
      have e : V i = v := by simpa [hi] using hv
      subst e
      exact ⟨L i, by simp [hi], hL i hi⟩

/-- Cells of n structs of s cells each, by struct and field. -/
def flatV (n s : Nat) (V : Nat → Nat → Value) : List Value := (List.range (n * s)).map fun j => V (j / s) (j % s)
theorem flatV_len (n s : Nat) (V : Nat → Nat → Value) : (flatV n s V).length = n * s := by simp [flatV]
theorem flatV_get {n s : Nat} {V : Nat → Nat → Value} {i r : Nat} (hi : i < n) (hr : r < s) : (flatV n s V)[i * s + r]? = some (V i r) := by
  have hlt : i * s + r < n * s := by
    have : (i + 1) * s ≤ n * s := Nat.mul_le_mul_right s hi
    rw [Nat.add_mul] at this
    omega
  unfold flatV
  rw [List.getElem?_map, List.getElem?_range hlt]
  have h1 : (i * s + r) / s = i := by rw [Nat.mul_comm, Nat.mul_add_div (by omega), Nat.div_eq_of_lt hr]; rfl
  have h2 : (i * s + r) % s = r := by rw [Nat.mul_comm, Nat.mul_add_mod, Nat.mod_eq_of_lt hr]
  simp [h1, h2]
theorem flatV_of {n s : Nat} {V : Nat → Nat → Value} {j : Nat} {u : Value} (hs : 0 < s) (h : (flatV n s V)[j]? = some u) : j / s < n ∧ j % s < s ∧ j = j / s * s + j % s ∧ u = V (j / s) (j % s) := by
  have hj : j < n * s := by have := (List.getElem?_eq_some_iff.1 h).1; rwa [flatV_len] at this
  have h1 : j / s < n := (Nat.div_lt_iff_lt_mul hs).2 hj
  have h2 : j % s < s := Nat.mod_lt _ hs
  have h3 : j = j / s * s + j % s := by have := Nat.div_add_mod j s; rw [Nat.mul_comm] at this; exact this.symm
  refine ⟨h1, h2, h3, ?_⟩
  have := flatV_get (V := V) h1 h2
  rw [← h3, h] at this
  injection this

theorem open_ents (h : DataW.trod enc Try.prog w base spare held fuel 23 cs = some x) : ∃ A n c l, cs = [.slice A n c] ∧ n ≤ c ∧ c ≤ maxLen ∧ Ents w w.heap.size A n l := by
  rcases open_slice Try.underlying23 h with ⟨hcs, _⟩ | ⟨a, len, cap, m, n, D, Pl, hcs, _, hl, hm, hmm, _, hx⟩
  · exact ⟨_, _, _, [], hcs, Nat.le_refl _, Nat.zero_le _, rfl, [], Rd.none_ _, fun i v hv => by simp at hv⟩
  · have hlm : len ≤ m := by rw [hmm]; split <;> omega
    have hC : Try.prog.cellsOf 49 = 5 := by kernel_rfl
    rw [hC] at hx
    obtain ⟨F, hF⟩ := choose_lt (α := Ent × Value × Value) (n := len) (p := fun i y => w.cell? (a.add (i * 5)) = some y.2.1 ∧ w.cell? (a.add (i * 5 + 1)) = some y.2.2 ∧ w.cell? (a.add (i * 5 + 2)) = some (.int .i64 y.1.ver) ∧ w.cell? (a.add (i * 5 + 3)) = some (.int .i64 y.1.ep) ∧ w.cell? (a.add (i * 5 + 4)) = some (.bool y.1.er) ∧ Bs w w.heap.size y.2.1 y.1.label ∧ Bs w w.heap.size y.2.2 y.1.value) (fun i hi => by
      obtain ⟨cs', hc, ht⟩ := hx i (by omega)
      obtain ⟨_, hcl, hat⟩ := World.cells?_some hc
      obtain ⟨ys, n', _, _, _, hyl, hf⟩ := DataW.trod_struct Try.underlying49 ht
      match cs', hcl with
      | [c0, c1, c2, c3, c4], _ =>
        have k0 : Try.prog.cellsOf 3 = 1 := by kernel_rfl
        have k1 : Try.prog.cellsOf 26 = 1 := by kernel_rfl
        have k2 : Try.prog.cellsOf 4 = 1 := by kernel_rfl
        have f0 : DataW.trod enc Try.prog w base spare held n' 26 (([c0, c1, c2, c3, c4].drop 0).take (Try.prog.cellsOf 26)) = ys[0]? := hf 0 _ rfl
        have f1 : DataW.trod enc Try.prog w base spare held n' 26 (([c0, c1, c2, c3, c4].drop 1).take (Try.prog.cellsOf 26)) = ys[1]? := hf 1 _ rfl
        have f2 : DataW.trod enc Try.prog w base spare held n' 3 (([c0, c1, c2, c3, c4].drop 2).take (Try.prog.cellsOf 3)) = ys[2]? := hf 2 _ rfl
        have f3 : DataW.trod enc Try.prog w base spare held n' 3 (([c0, c1, c2, c3, c4].drop 3).take (Try.prog.cellsOf 3)) = ys[3]? := hf 3 _ rfl
        have f4 : DataW.trod enc Try.prog w base spare held n' 4 (([c0, c1, c2, c3, c4].drop 4).take (Try.prog.cellsOf 4)) = ys[4]? := hf 4 _ rfl
        rw [k1] at f0 f1
        rw [k0] at f2 f3
        rw [k2] at f4
        rw [List.getElem?_eq_getElem (by rw [hyl]; decide)] at f0 f1 f2 f3 f4
        obtain ⟨v0, l0, e0, b0⟩ := open_bytes f0
        obtain ⟨v1, l1, e1, b1⟩ := open_bytes f1
        obtain ⟨z2, e2, _, _⟩ := DataW.trod_int Try.underlying3 f2
        obtain ⟨z3, e3, _, _⟩ := DataW.trod_int Try.underlying3 f3
        obtain ⟨z4, e4, _⟩ := DataW.trod_bool Try.underlying4 f4
        injection e0 with e0
        injection e1 with e1
        injection e2 with e2
        injection e3 with e3
        injection e4 with e4
        subst e0 e1 e2 e3 e4
        have a0 := hat 0 (by omega)
        have a1 := hat 1 (by omega)
        have a2 := hat 2 (by omega)
        have a3 := hat 3 (by omega)
        have a4 := hat 4 (by omega)
        rw [Go.Deep.add_add] at a0 a1 a2 a3 a4
        exact ⟨(⟨l0, l1, z2, z3, z4⟩, _, _), a0, a1, a2, a3, a4, b0, b1⟩)
    refine ⟨_, _, _, (List.range len).map fun i => (F i).1, hcs, hl, hm, by simp, flatV len 5 (fun i r => match r with | 0 => (F i).2.1 | 1 => (F i).2.2 | 2 => .int .i64 (F i).1.ver | 3 => .int .i64 (F i).1.ep | _ => .bool (F i).1.er), ⟨flatV_len _ _ _, fun hn => ⟨a, rfl, ?_, fun j u hu => ?_⟩⟩, fun i y hy => ?_⟩
    · have := block_lt_of_cell (hF 0 (by omega)).1
      rwa [block_of_add] at this
    · obtain ⟨g1, g2, g3, rfl⟩ := flatV_of (by omega) hu
      obtain ⟨p0, p1, p2, p3, p4, _⟩ := hF _ g1
      rw [g3]
      have e1 : (j / 5 * 5 + j % 5) / 5 = j / 5 := by omega
      have e2 : (j / 5 * 5 + j % 5) % 5 = j % 5 := by omega
      rw [e1, e2]
      generalize j / 5 = q at *
      generalize hr : j % 5 = r at *
      match r, g2 with
      | 0, _ => exact p0
      | 1, _ => exact p1
      | 2, _ => exact p2
      | 3, _ => exact p3
      | 4, _ => exact p4
    · have hi : i < len := by simpa using (List.getElem?_eq_some_iff.1 hy).1
      have e : (F i).1 = y := by simpa [hi] using hy
      subst e
      obtain ⟨_, _, _, _, _, b0, b1⟩ := hF i hi
      exact ⟨_, _, flatV_get hi (r := 0) (by omega), b0, flatV_get hi (r := 1) (by omega), b1, flatV_get hi (r := 2) (by omega), flatV_get hi (r := 3) (by omega), flatV_get hi (r := 4) (by omega)⟩

theorem open_steps (h : DataW.trod enc Try.prog w base spare held fuel 45 cs = some x) : ∃ A n c l, cs = [.slice A n c] ∧ n ≤ c ∧ c ≤ maxLen ∧ Stps w w.heap.size A n l := by
  rcases open_slice Try.underlying45 h with ⟨hcs, _⟩ | ⟨a, len, cap, m, n, D, Pl, hcs, _, hl, hm, hmm, _, hx⟩
  · exact ⟨_, _, _, [], hcs, Nat.le_refl _, Nat.zero_le _, rfl, [], Rd.none_ _, fun i v hv => by simp at hv⟩
  · have hlm : len ≤ m := by rw [hmm]; split <;> omega
    have hC : Try.prog.cellsOf 47 = 4 := by kernel_rfl
    rw [hC] at hx
    obtain ⟨F, hF⟩ := choose_lt (α := Stp × Value × Value) (n := len) (p := fun i y => w.cell? (a.add (i * 4)) = some (.int .u8 (y.1.kind.toNat : Int)) ∧ w.cell? (a.add (i * 4 + 1)) = some y.2.1 ∧ w.cell? (a.add (i * 4 + 2)) = some y.2.2 ∧ w.cell? (a.add (i * 4 + 3)) = some (.int .i64 y.1.ver) ∧ Bs w w.heap.size y.2.1 y.1.label ∧ Bs w w.heap.size y.2.2 y.1.value) (fun i hi => by
      obtain ⟨cs', hc, ht⟩ := hx i (by omega)
      obtain ⟨_, hcl, hat⟩ := World.cells?_some hc
      obtain ⟨ys, n', _, _, _, hyl, hf⟩ := DataW.trod_struct Try.underlying47 ht
      match cs', hcl with
      | [c0, c1, c2, c3], _ =>
        have k0 : Try.prog.cellsOf 3 = 1 := by kernel_rfl
        have k1 : Try.prog.cellsOf 26 = 1 := by kernel_rfl
        have k2 : Try.prog.cellsOf 5 = 1 := by kernel_rfl
        have f0 : DataW.trod enc Try.prog w base spare held n' 5 (([c0, c1, c2, c3].drop 0).take (Try.prog.cellsOf 5)) = ys[0]? := hf 0 _ rfl
        have f1 : DataW.trod enc Try.prog w base spare held n' 26 (([c0, c1, c2, c3].drop 1).take (Try.prog.cellsOf 26)) = ys[1]? := hf 1 _ rfl
        have f2 : DataW.trod enc Try.prog w base spare held n' 26 (([c0, c1, c2, c3].drop 2).take (Try.prog.cellsOf 26)) = ys[2]? := hf 2 _ rfl
        have f3 : DataW.trod enc Try.prog w base spare held n' 3 (([c0, c1, c2, c3].drop 3).take (Try.prog.cellsOf 3)) = ys[3]? := hf 3 _ rfl
        rw [k2] at f0
        rw [k1] at f1 f2
        rw [k0] at f3
        rw [List.getElem?_eq_getElem (by rw [hyl]; decide)] at f0 f1 f2 f3
        obtain ⟨z0, e0, _, w0⟩ := DataW.trod_int Try.underlying5 f0
        obtain ⟨v1, l1, e1, b1⟩ := open_bytes f1
        obtain ⟨v2, l2, e2, b2⟩ := open_bytes f2
        obtain ⟨z3, e3, _, _⟩ := DataW.trod_int Try.underlying3 f3
        injection e0 with e0
        injection e1 with e1
        injection e2 with e2
        injection e3 with e3
        subst e0 e1 e2 e3
        have a0 := hat 0 (by omega)
        have a1 := hat 1 (by omega)
        have a2 := hat 2 (by omega)
        have a3 := hat 3 (by omega)
        rw [Go.Deep.add_add] at a0 a1 a2 a3
        have hb := bv_of w0
        unfold bv at hb
        refine ⟨(⟨UInt8.ofNat z0.toNat, l1, l2, z3⟩, _, _), ?_, a1, a2, a3, b1, b2⟩
        dsimp only
        rw [hb]
        exact a0)
    refine ⟨_, _, _, (List.range len).map fun i => (F i).1, hcs, hl, hm, by simp, flatV len 4 (fun i r => match r with | 0 => .int .u8 ((F i).1.kind.toNat : Int) | 1 => (F i).2.1 | 2 => (F i).2.2 | _ => .int .i64 (F i).1.ver), ⟨flatV_len _ _ _, fun hn => ⟨a, rfl, ?_, fun j u hu => ?_⟩⟩, fun i y hy => ?_⟩
    · have := block_lt_of_cell (hF 0 (by omega)).1
      rwa [block_of_add] at this
    · obtain ⟨g1, g2, g3, rfl⟩ := flatV_of (by omega) hu
      obtain ⟨p0, p1, p2, p3, _⟩ := hF _ g1
      rw [g3]
      have e1 : (j / 4 * 4 + j % 4) / 4 = j / 4 := by omega
      have e2 : (j / 4 * 4 + j % 4) % 4 = j % 4 := by omega
      rw [e1, e2]
      generalize j / 4 = q at *
      generalize hr : j % 4 = r at *
      match r, g2 with
      | 0, _ => exact p0
      | 1, _ => exact p1
      | 2, _ => exact p2
      | 3, _ => exact p3
    · have hi : i < len := by simpa using (List.getElem?_eq_some_iff.1 hy).1
      have e : (F i).1 = y := by simpa [hi] using hy
      subst e
      obtain ⟨_, _, _, _, b0, b1⟩ := hF i hi
      exact ⟨_, _, flatV_get hi (r := 0) (by omega), flatV_get hi (r := 1) (by omega), b0, flatV_get hi (r := 2) (by omega), b1, flatV_get hi (r := 3) (by omega)⟩

/-- A book that came in. -/
theorem open_book {r : Reach} {b0 : Nat} {v : Value} {d : DataW H} {p : List MemPlace} (hv : Value.okWide Try.prog w r b0 25 v) (h : DataW.Trod enc Try.prog w base spare held 25 v d p) :
    ∃ (A : Option Addr) (c : Nat) (k : Bk), v = bkv A k.ents.length c k.eps ∧ Ents w w.heap.size A k.ents.length k.ents ∧ k.ents.length ≤ c ∧ c ≤ maxLen := by
  obtain ⟨cs, rfl, hsz⟩ := okWide_struct Try.underlying25 hv
  have hC : Try.prog.cellsOf 25 = 2 := by kernel_rfl
  obtain ⟨l⟩ := cs
  match l, hsz.trans hC with
  | [c0, c1], _ =>
    obtain ⟨fuel, hf⟩ := h
    obtain ⟨ys, n, _, _, _, hyl, hg⟩ := DataW.trod_struct Try.underlying25 hf
    have k0 : Try.prog.cellsOf 3 = 1 := by kernel_rfl
    have k1 : Try.prog.cellsOf 23 = 1 := by kernel_rfl
    have f0 : DataW.trod enc Try.prog w base spare held n 23 (([c0, c1].drop 0).take (Try.prog.cellsOf 23)) = ys[0]? := hg 0 _ rfl
    rw [k1] at f0
    have f1 : DataW.trod enc Try.prog w base spare held n 3 (([c0, c1].drop 1).take (Try.prog.cellsOf 3)) = ys[1]? := hg 1 _ rfl
    rw [k0] at f1
    rw [List.getElem?_eq_getElem (by rw [hyl]; decide)] at f0 f1
    obtain ⟨A, m, c, l, e0, h1, h2, hb⟩ := open_ents f0
    obtain ⟨z1, e1, _, w1⟩ := DataW.trod_int Try.underlying3 f1
    injection e0 with e0
    injection e1 with e1
    subst e0 e1
    have hm := hb.1
    subst hm
    exact ⟨A, c, ⟨l, z1⟩, rfl, hb, h1, h2⟩
end
end Go.Proofs.Ytkiijbbcfbkecaa
