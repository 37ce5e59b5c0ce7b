/- The document's check of a book is the program's. Plain Lean: no program here. -/
import Derived.Test.YtkiijbbcfbkecaaP0
namespace Go.Proofs.Ytkiijbbcfbkecaa
open Go.RowKit

def prevEp (l : List Ent) (i : Nat) : Int := match l[i - 1]? with
  | some o => o.ep
  | none => 0
/-- What the document asks of entry x, at place i. -/
def mayB (k : Bk) (i : Nat) (x : Ent) : Bool :=
  itemB x.label x.value x.ver && decide (x.ver = 1 + cntL (k.ents.take i) x.label) && decide (0 ≤ x.ep) && decide (x.ep ≤ k.eps) && !(x.er && (decide (0 < x.value.length) || decide (x.ep = 0))) && decide (cntE k.ents x.ep ≤ mostN x.ep) &&
    (decide (i = 0) || decide (x.ep = 0) || (decide (prevEp k.ents i ≠ 0) && decide (prevEp k.ents i ≤ x.ep)))
def mayAt (k : Bk) (i : Nat) : Bool := match k.ents[i]? with
  | some x => mayB k i x
  | none => true
def rcheckBk (b : Bk) : Bool := decide (0 ≤ b.eps) && decide (b.eps ≤ 16) && decide (b.ents.length ≤ 72) && (List.range b.ents.length).all (mayAt b)

theorem lateB_false {e o : Ent} : lateB e o = false ↔ (0 < e.ep → o.ep ≠ 0 ∧ o.ep ≤ e.ep) := by
  unfold lateB
  by_cases h : 0 < e.ep
  · simp only [h, decide_true, Bool.true_and, Bool.or_eq_false_iff, decide_eq_false_iff_not]
    constructor
    · intro g _
      omega
    · intro g
      have := g trivial
      omega
  · simp [h]
theorem take_get {l : List Ent} {i j : Nat} {o : Ent} (h : (l.take i)[j]? = some o) : j < i ∧ l[j]? = some o := by
  have hj := (List.getElem?_eq_some_iff.1 h).1
  rw [List.length_take] at hj
  have hji : j < i := by omega
  rw [List.getElem?_take_of_lt hji] at h
  exact ⟨hji, h⟩
theorem fitsB_iff {e : Ent} {ah : List Ent} {eps : Int} : fitsB e ah eps = true ↔
    (itemB e.label e.value e.ver = true ∧ 0 ≤ e.ep ∧ e.ep ≤ eps ∧ (e.er && (decide (0 < e.value.length) || decide (e.ep = 0))) = false) ∧ (∀ o ∈ ah, lateB e o = false) ∧ e.ver = cntL ah e.label + 1 ∧ cntE ah e.ep < mostN e.ep := by
  unfold fitsB
  simp only [Bool.and_eq_true, decide_eq_true_eq, Bool.not_eq_true', List.all_eq_true]
  constructor
  · rintro ⟨⟨⟨⟨⟨⟨h1, h2⟩, h3⟩, h4⟩, h5⟩, h6⟩, h7⟩
    exact ⟨⟨h1, h2, h3, h4⟩, h5, h6, h7⟩
  · rintro ⟨⟨h1, h2, h3, h4⟩, h5, h6, h7⟩
    exact ⟨⟨⟨⟨⟨⟨h1, h2⟩, h3⟩, h4⟩, h5⟩, h6⟩, h7⟩
theorem mayB_iff {k : Bk} {i : Nat} {x : Ent} : mayB k i x = true ↔
    (itemB x.label x.value x.ver = true ∧ 0 ≤ x.ep ∧ x.ep ≤ k.eps ∧ (x.er && (decide (0 < x.value.length) || decide (x.ep = 0))) = false) ∧ (i = 0 ∨ x.ep = 0 ∨ (prevEp k.ents i ≠ 0 ∧ prevEp k.ents i ≤ x.ep)) ∧ x.ver = cntL (k.ents.take i) x.label + 1 ∧ cntE k.ents x.ep ≤ mostN x.ep := by
  unfold mayB
  simp only [Bool.and_eq_true, Bool.or_eq_true, decide_eq_true_eq, Bool.not_eq_true']
  constructor
  · rintro ⟨⟨⟨⟨⟨⟨h1, h2⟩, h3⟩, h4⟩, h5⟩, h6⟩, h7⟩
    exact ⟨⟨h1, h3, h4, h5⟩, (by rcases h7 with (h | h) | h <;> simp_all), by omega, h6⟩
  · rintro ⟨⟨h1, h3, h4, h5⟩, h7, h2, h6⟩
    exact ⟨⟨⟨⟨⟨⟨h1, by omega⟩, h3⟩, h4⟩, h5⟩, h6⟩, (by rcases h7 with h | h | h <;> simp_all)⟩

/-- Entries that follow their predecessors follow all ahead of them. -/
theorem ahead_all {l : List Ent} (h0 : ∀ (i : Nat) (x : Ent), l[i]? = some x → 0 ≤ x.ep) (h : ∀ (i : Nat) (x : Ent), l[i]? = some x → i = 0 ∨ x.ep = 0 ∨ (prevEp l i ≠ 0 ∧ prevEp l i ≤ x.ep)) :
    ∀ (i : Nat) (x : Ent), l[i]? = some x → 0 < x.ep → ∀ (j : Nat) (o : Ent), j < i → l[j]? = some o → o.ep ≠ 0 ∧ o.ep ≤ x.ep := by
  intro i
  induction i with
  | zero => intro x hx hp j o hj; omega
  | succ i ih =>
    intro x hx hp j o hj ho
    have hi : i < l.length := by have := (List.getElem?_eq_some_iff.1 hx).1; omega
    have hy : l[i]? = some l[i] := List.getElem?_eq_getElem hi
    have hpv : prevEp l (i + 1) = (l[i]).ep := by unfold prevEp; rw [Nat.add_sub_cancel, hy]
    have hst := h (i + 1) x hx
    rw [hpv] at hst
    have h1 : (l[i]).ep ≠ 0 ∧ (l[i]).ep ≤ x.ep := by
      rcases hst with h | h | h
      · omega
      · omega
      · exact h
    rcases Nat.lt_or_ge j i with hji | hji
    · have := h0 i _ hy
      obtain ⟨a, b⟩ := ih _ hy (by omega) j o hji ho
      exact ⟨a, by omega⟩
    · obtain rfl : j = i := by omega
      rw [hy] at ho
      injection ho with ho
      subst ho
      exact h1
theorem cntE_mono (l : List Ent) (ep : Int) (i : Nat) : cntE (l.take i) ep ≤ cntE l ep := by
  have : cntE l ep = cntE (l.take i) ep + cntE (l.drop i) ep := by
    unfold cntE
    rw [← List.countP_append, List.take_append_drop]
  omega
theorem cnt_most {l : List Ent} (h : ∀ (i : Nat) (x : Ent), l[i]? = some x → cntE (l.take i) x.ep < mostN x.ep) (ep : Int) : ∀ n, n ≤ l.length → cntE (l.take n) ep ≤ mostN ep := by
  intro n
  induction n with
  | zero => intro _; simp [cntE]
  | succ n ih =>
    intro hn
    have hx : l[n]? = some l[n] := List.getElem?_eq_getElem (by omega)
    rw [take_snoc_of hx, cntE_snoc]
    have := ih (by omega)
    split
    · rename_i he
      have := h n _ hx
      rw [he] at this
      omega
    · omega
theorem rcheck_eq (k : Bk) : rcheckBk k = checkBk k := by
  rw [Bool.eq_iff_iff]
  unfold rcheckBk checkBk
  simp only [Bool.and_eq_true, decide_eq_true_eq, List.all_eq_true, List.mem_range]
  have key : (∀ i, i < k.ents.length → mayAt k i = true) ↔ (∀ i, i < k.ents.length → fitsAt k.ents k.eps i = true) := by
    have e1 : (∀ i, i < k.ents.length → mayAt k i = true) ↔ ∀ (i : Nat) (x : Ent), k.ents[i]? = some x → mayB k i x = true := by
      constructor
      · intro h i x hx
        have := h i (List.getElem?_eq_some_iff.1 hx).1
        unfold mayAt at this
        rw [hx] at this
        exact this
      · intro h i hi
        have hx : k.ents[i]? = some k.ents[i] := List.getElem?_eq_getElem hi
        unfold mayAt
        rw [hx]
        exact h i _ hx
    have e2 : (∀ i, i < k.ents.length → fitsAt k.ents k.eps i = true) ↔ ∀ (i : Nat) (x : Ent), k.ents[i]? = some x → fitsB x (k.ents.take i) k.eps = true := by
      constructor
      · intro h i x hx
        have := h i (List.getElem?_eq_some_iff.1 hx).1
        unfold fitsAt at this
        rw [hx] at this
        exact this
      · intro h i hi
        have hx : k.ents[i]? = some k.ents[i] := List.getElem?_eq_getElem hi
        unfold fitsAt
        rw [hx]
        exact h i _ hx
    rw [e1, e2]
    constructor
    · intro h i x hx
      have hm := fun i x hx => mayB_iff.1 (h i x hx)
      have ha := ahead_all (fun i x hx => (hm i x hx).1.2.1) (fun i x hx => (hm i x hx).2.1)
      obtain ⟨m1, m2, m3, m4⟩ := hm i x hx
      refine fitsB_iff.2 ⟨m1, fun o ho => ?_, m3, ?_⟩
      · obtain ⟨j, hj⟩ := List.getElem?_of_mem ho
        obtain ⟨hji, hj'⟩ := take_get hj
        exact lateB_false.2 fun hp => ha i x hx hp j o hji hj'
      · have hs := cntE_mono k.ents x.ep (i + 1)
        rw [take_snoc_of hx, cntE_snoc, if_pos rfl] at hs
        omega
    · intro h i x hx
      have hm := fun i x hx => fitsB_iff.1 (h i x hx)
      obtain ⟨m1, m2, m3, m4⟩ := hm i x hx
      refine mayB_iff.2 ⟨m1, ?_, m3, ?_⟩
      · rcases Nat.eq_zero_or_pos i with h0 | h0
        · exact .inl h0
        · refine .inr ?_
          by_cases hz : x.ep = 0
          · exact .inl hz
          · refine .inr ?_
            have hi := (List.getElem?_eq_some_iff.1 hx).1
            have hy : k.ents[i - 1]? = some (k.ents[i - 1]'(by omega)) := List.getElem?_eq_getElem _
            have hpv : prevEp k.ents i = (k.ents[i - 1]'(by omega)).ep := by unfold prevEp; rw [hy]
            rw [hpv]
            have hmem : (k.ents[i - 1]'(by omega)) ∈ k.ents.take i := List.mem_of_getElem? (i := i - 1) (by rw [List.getElem?_take_of_lt (by omega)]; exact hy)
            exact lateB_false.1 (m2 _ hmem) (by have := m1.2.1; omega)
      · have := cnt_most (fun i x hx => (hm i x hx).2.2.2) x.ep k.ents.length (Nat.le_refl _)
        rwa [List.take_length] at this
  rw [key]
end Go.Proofs.Ytkiijbbcfbkecaa
