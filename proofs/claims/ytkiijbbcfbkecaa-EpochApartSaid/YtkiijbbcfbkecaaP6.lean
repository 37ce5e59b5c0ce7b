/- A label's entries in a book of many labels, and in a book of it alone. Plain Lean: no program here. -/
import Derived.Test.YtkiijbbcfbkecaaP5
namespace Go.Proofs.Ytkiijbbcfbkecaa
open Go.RowKit

/-- Two books: the second has just the first one's entries of a label. -/
structure ApInv (kb kc : Bk) (lab : List UInt8) (j n : Nat) : Prop where
  b : GoBk kb j 0 0
  c : GoBk kc n 0 0
  same : kb.ents.filter (fun x => decide (x.label = lab)) = kc.ents
theorem apInv_nil (lab : List UInt8) : ApInv ⟨[], 0⟩ ⟨[], 0⟩ lab 0 0 := ⟨goBk_nil, goBk_nil, rfl⟩
theorem ap_len {kb kc : Bk} {lab : List UInt8} {j n : Nat} (h : ApInv kb kc lab j n) : n ≤ j := by
  rw [← h.b.len, ← h.c.len, ← h.same]
  exact List.length_filter_le _ _
theorem ap_cntB {kb kc : Bk} {lab : List UInt8} {j n : Nat} (h : ApInv kb kc lab j n) : cntL kb.ents lab = n := by
  unfold cntL
  rw [List.countP_eq_length_filter, h.same]
  exact h.c.len
theorem ap_lab {kb kc : Bk} {lab : List UInt8} {j n : Nat} (h : ApInv kb kc lab j n) {x : Ent} (hx : x ∈ kc.ents) : x.label = lab ∧ x ∈ kb.ents := by
  rw [← h.same] at hx
  have := List.mem_filter.1 hx
  exact ⟨by simpa using this.2, this.1⟩
theorem ap_cntC {kb kc : Bk} {lab : List UInt8} {j n : Nat} (h : ApInv kb kc lab j n) : cntL kc.ents lab = n := by
  unfold cntL
  rw [List.countP_eq_length.2 (fun x hx => by simpa using (ap_lab h hx).1)]
  exact h.c.len
theorem pub_ents {k : Bk} {lab val : List UInt8} (h : pubE k lab val = 0) : (pubK k lab val).ents = k.ents ++ [⟨lab, val, cntL k.ents lab + 1, 0, false⟩] := by unfold pubK; rw [if_pos h]; rfl
theorem ap_other {kb kc : Bk} {lab lab' val : List UInt8} {j n : Nat} (h : ApInv kb kc lab j n) (hj : j < 8) (hl : lab'.length ≤ 32) (hv : val.length ≤ 64) (hne : lab' ≠ lab) : pubE kb lab' val = 0 ∧ ApInv (pubK kb lab' val) kc lab (j + 1) n := by
  obtain ⟨h1, h2⟩ := goBk_pub h.b hj lab' val hl hv
  refine ⟨h1, h2, h.c, ?_⟩
  rw [pub_ents h1, List.filter_append, h.same]
  simp [hne]
theorem ap_this {kb kc : Bk} {lab val : List UInt8} {j n : Nat} (h : ApInv kb kc lab j n) (hj : j < 8) (hl : lab.length ≤ 32) (hv : val.length ≤ 64) : pubE kb lab val = 0 ∧ pubE kc lab val = 0 ∧ ApInv (pubK kb lab val) (pubK kc lab val) lab (j + 1) (n + 1) := by
  obtain ⟨h1, h2⟩ := goBk_pub h.b hj lab val hl hv
  obtain ⟨h3, h4⟩ := goBk_pub h.c (by have := ap_len h; omega) lab val hl hv
  refine ⟨h1, h3, h2, h4, ?_⟩
  rw [pub_ents h1, pub_ents h3, List.filter_append, h.same, ap_cntB h, ap_cntC h]
  simp
theorem ap_ver {kb kc : Bk} {lab : List UInt8} {j n : Nat} (h : ApInv kb kc lab j n) {q : Nat} {y : Ent} (hy : kc.ents[q]? = some y) : y.ver = (q : Int) + 1 := by
  obtain ⟨_, h2⟩ := (check_fits kc).1 h.c.ck
  obtain ⟨_, _, h3, _⟩ := fitsB_iff.1 (h2 q y hy)
  have hq := (List.getElem?_eq_some_iff.1 hy).1
  rw [h3]
  have : cntL (kc.ents.take q) y.label = q := by
    unfold cntL
    rw [List.countP_eq_length.2 (fun x hx => by
      have h1 := (ap_lab h (List.mem_of_mem_take hx)).1
      have h2 := (ap_lab h (List.mem_of_getElem? hy)).1
      simp [h1, h2])]
    rw [List.length_take]
    omega
  rw [this]
/-- The same versions are found in both, and are one entry. -/
theorem ap_get {kb kc : Bk} {lab : List UInt8} {j n : Nat} (h : ApInv kb kc lab j n) {v : Nat} (h1 : 1 ≤ v) (h2 : v ≤ n) :
    ∃ i k x, getN kb lab (v : Int) = some i ∧ getN kc lab (v : Int) = some k ∧ kb.ents[i]? = some x ∧ kc.ents[k]? = some x ∧ i < j ∧ k < n := by
  have hlc := h.c.len
  have hy : kc.ents[v - 1]? = some (kc.ents[v - 1]'(by omega)) := List.getElem?_eq_getElem _
  obtain ⟨y, hy'⟩ : ∃ y, kc.ents[v - 1]? = some y := ⟨_, hy⟩
  have hyv := ap_ver h hy'
  have hyl := ap_lab h (List.mem_of_getElem? hy')
  have hyv' : y.ver = (v : Int) := by rw [hyv]; omega
  have found : ∀ (k : Bk), checkBk k = true → y ∈ k.ents → ∃ i x, getN k lab (v : Int) = some i ∧ k.ents[i]? = some x ∧ x.label = lab ∧ x.ver = (v : Int) ∧ i < k.ents.length := by
    intro k hk hm
    unfold getN
    rw [hk, if_pos rfl]
    rcases hg : getP k.ents lab (v : Int) k.ents.length with _ | i
    · obtain ⟨q, hq⟩ := List.getElem?_of_mem hm
      exact absurd ⟨hyl.1, hyv'⟩ (getP_first hg q y (List.getElem?_eq_some_iff.1 hq).1 hq)
    · obtain ⟨hi, x, hx, g1, g2⟩ := getP_lt hg
      exact ⟨i, x, rfl, hx, g1, g2, hi⟩
  have uniq : ∀ x ∈ kc.ents, x.ver = (v : Int) → x = y := by
    intro x hx hv
    obtain ⟨q, hq⟩ := List.getElem?_of_mem hx
    have := ap_ver h hq
    have e : q = v - 1 := by omega
    subst e
    rw [hy'] at hq
    injection hq with hq
    exact hq.symm
  obtain ⟨i, x, a1, a2, a3, a4, a5⟩ := found kb h.b.ck hyl.2
  obtain ⟨k, z, b1, b2, b3, b4, b5⟩ := found kc h.c.ck (List.mem_of_getElem? hy')
  have hxc : x ∈ kc.ents := by
    rw [← h.same, List.mem_filter]
    exact ⟨List.mem_of_getElem? a2, by simpa using a3⟩
  have ex := uniq x hxc a4
  have ez := uniq z (List.mem_of_getElem? b2) b4
  subst ex
  subst ez
  exact ⟨i, k, _, a1, b1, a2, b2, by rw [← h.b.len]; exact a5, by rw [← h.c.len]; exact b5⟩
end Go.Proofs.Ytkiijbbcfbkecaa
