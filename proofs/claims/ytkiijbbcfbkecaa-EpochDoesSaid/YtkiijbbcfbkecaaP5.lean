/- Books of entries that came in one behind the other; epochs behind one another. Plain Lean: no program here. -/
import Derived.Test.YtkiijbbcfbkecaaP3
namespace Go.Proofs.Ytkiijbbcfbkecaa
open Go.RowKit

/-- The first so many entries have an epoch, the others wait. -/
def GoInv (l : List Ent) (at_ : Nat) : Prop := at_ ≤ l.length ∧ ∀ (j : Nat) (x : Ent), l[j]? = some x → (j < at_ → x.ep ≠ 0) ∧ (at_ ≤ j → x.ep = 0)
theorem range_snoc (a n : Nat) : List.range' a (n + 1) = List.range' a n ++ [a + n] := by
  rw [List.range'_concat]; simp
theorem go_tkP {l : List Ent} {at_ : Nat} (h : GoInv l at_) : ∀ i, i ≤ l.length → tkP l i = List.range' at_ (min (i - at_) 4) := by
  intro i
  induction i with
  | zero => intro _; simp [tkP]
  | succ i ih =>
    intro hi
    have ih := ih (by omega)
    have hx : l[i]? = some (l[i]'(by omega)) := List.getElem?_eq_getElem _
    have hg := h.2 i _ hx
    have hl : (tkP l i).length = min (i - at_) 4 := by rw [ih]; simp
    by_cases hia : i < at_
    · rw [tkP_keep hx (hg.1 hia), ih]
      have e1 : i - at_ = 0 := by omega
      have e2 : i + 1 - at_ = 0 := by omega
      rw [e1, e2]
    · have h0 := hg.2 (by omega)
      by_cases h4 : (tkP l i).length < 4
      · rw [tkP_set hx h0 h4, ih]
        rw [hl] at h4
        have e1 : min (i - at_) 4 = i - at_ := by omega
        have e2 : min (i + 1 - at_) 4 = (i - at_) + 1 := by omega
        rw [e1, e2, range_snoc]
        have e3 : at_ + (i - at_) = i := by omega
        rw [e3]
      · rw [tkP_full h4, ih]
        rw [hl] at h4
        have e1 : min (i - at_) 4 = 4 := by omega
        have e2 : min (i + 1 - at_) 4 = 4 := by omega
        rw [e1, e2]
theorem go_places {l : List Ent} {at_ : Nat} (h : GoInv l at_) : tkP l l.length = List.range' at_ (min (l.length - at_) 4) := go_tkP h _ (Nat.le_refl _)
theorem go_tick {l : List Ent} {at_ : Nat} {ep : Int} (h : GoInv l at_) (hep : ep ≠ 0) : GoInv (tkL l ep l.length) (at_ + min (l.length - at_) 4) := by
  refine ⟨by rw [tkL_len]; have := h.1; omega, fun j x hx => ?_⟩
  rw [tkL_get, go_places h] at hx
  rcases hy : l[j]? with _ | y
  · rw [hy] at hx; simp at hx
  · rw [hy] at hx
    simp only [Option.map_some, Option.some.injEq] at hx
    have hj := (List.getElem?_eq_some_iff.1 hy).1
    have hg := h.2 j y hy
    have hm : j ∈ List.range' at_ (min (l.length - at_) 4) ↔ at_ ≤ j ∧ j < at_ + min (l.length - at_) 4 := by
      rw [List.mem_range'_1]
    by_cases hin : at_ ≤ j ∧ j < at_ + min (l.length - at_) 4
    · rw [if_pos (hm.2 hin)] at hx
      subst hx
      exact ⟨fun _ => hep, fun h' => by omega⟩
    · rw [if_neg (fun h' => hin (hm.1 h'))] at hx
      subst hx
      exact ⟨fun h' => hg.1 (by omega), fun h' => hg.2 (by omega)⟩
theorem go_wait {l : List Ent} {at_ : Nat} (h : GoInv l at_) : cntE l 0 = l.length - at_ := by
  have key : ∀ n, n ≤ l.length → cntE (l.take n) 0 = n - at_ := by
    intro n
    induction n with
    | zero => intro _; simp [cntE]
    | succ n ih =>
      intro hn
      have hx : l[n]? = some (l[n]'(by omega)) := List.getElem?_eq_getElem _
      have hg := h.2 n _ hx
      rw [take_snoc_of hx, cntE_snoc, ih (by omega)]
      by_cases hna : n < at_
      · rw [if_neg (hg.1 hna)]; omega
      · rw [if_pos (hg.2 (by omega))]; omega
  have := key l.length (Nat.le_refl _)
  rwa [List.take_length] at this
theorem go_nil : GoInv [] 0 := ⟨by simp, fun j x hx => by simp at hx⟩
theorem go_push {l : List Ent} {x : Ent} (h : GoInv l 0) (hx : x.ep = 0) : GoInv (l ++ [x]) 0 := by
  refine ⟨by simp, fun j y hy => ⟨fun h' => by omega, fun _ => ?_⟩⟩
  rcases List.mem_append.1 (List.mem_of_getElem? hy) with hm | hm
  · obtain ⟨i, hi⟩ := List.getElem?_of_mem hm
    exact (h.2 i y hi).2 (by omega)
  · simp at hm
    rw [hm]; exact hx

/-- A book that may be, whose epochs are so many, of so many entries, the first of which have an epoch. -/
structure GoBk (k : Bk) (n at_ : Nat) (eps : Nat) : Prop where
  ck : checkBk k = true
  len : k.ents.length = n
  inv : GoInv k.ents at_
  ep : k.eps = (eps : Int)
theorem goBk_nil : GoBk ⟨[], 0⟩ 0 0 0 := ⟨by decide, rfl, go_nil, rfl⟩
theorem goBk_pub {k : Bk} {n : Nat} (h : GoBk k n 0 0) (hn : n < 8) (lab val : List UInt8) (hl : lab.length ≤ 32) (hv : val.length ≤ 64) : pubE k lab val = 0 ∧ GoBk (pubK k lab val) (n + 1) 0 0 := by
  have hw := go_wait h.inv
  have hit : itemB lab val (cntL k.ents lab + 1) = true := by
    have := cntL_le k.ents lab
    have := h.len
    simp [itemB]
    omega
  have hE : pubE k lab val = 0 := by
    unfold pubE
    rw [h.ck, if_pos rfl, hit, if_pos rfl, if_pos (by rw [hw, h.len]; omega)]
  refine ⟨hE, ⟨pub_check lab val h.ck, ?_, ?_, ?_⟩⟩
  · unfold pubK; rw [if_pos hE]; simp [h.len]
  · unfold pubK; rw [if_pos hE]; exact go_push h.inv rfl
  · unfold pubK; rw [if_pos hE]; exact h.ep
theorem goBk_tick {k : Bk} {n at_ eps : Nat} (h : GoBk k n at_ eps) (he : eps < 16) : tickE k = 0 ∧ tickPl k = List.range' at_ (min (n - at_) 4) ∧ GoBk (tickK k) n (at_ + min (n - at_) 4) (eps + 1) ∧ (tickK k).eps = (eps : Int) + 1 := by
  have hE : tickE k = 0 := by
    unfold tickE
    rw [h.ck, if_pos rfl, if_pos (by rw [h.ep]; omega)]
  have hp := go_places h.inv
  have ht := go_tick (ep := k.eps + 1) h.inv (by rw [h.ep]; omega)
  rw [h.len] at hp ht
  have hK : tickK k = ⟨tkL k.ents (k.eps + 1) n, k.eps + 1⟩ := by unfold tickK; rw [if_pos hE, h.len]
  refine ⟨hE, ?_, ⟨tick_check h.ck, ?_, ?_, ?_⟩, ?_⟩
  · unfold tickPl; rw [if_pos hE, h.len]; exact hp
  · rw [hK]; dsimp only; rw [tkL_len]; exact h.len
  · rw [hK]; exact ht
  · rw [hK]; dsimp only; rw [h.ep]; omega
  · rw [hK]; dsimp only; rw [h.ep]
theorem goBk_wait {k : Bk} {n at_ eps : Nat} (h : GoBk k n at_ eps) : cntE k.ents 0 = n - at_ ∧ at_ ≤ n := by
  have h1 := go_wait h.inv
  have h2 := h.inv.1
  rw [h.len] at h1 h2
  exact ⟨h1, h2⟩
end Go.Proofs.Ytkiijbbcfbkecaa
