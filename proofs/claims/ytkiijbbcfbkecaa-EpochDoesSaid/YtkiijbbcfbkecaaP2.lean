/- What is done to a book, as plain data: an entry more, an epoch more, an entry erased. Plain Lean: no program here. -/
import Derived.Test.YtkiijbbcfbkecaaP1
namespace Go.Proofs.Ytkiijbbcfbkecaa
open Go.RowKit

/-- The entry that is published. -/
def newEnt (k : Bk) (lab val : List UInt8) : Ent := ⟨lab, val, cntL k.ents lab + 1, 0, false⟩
def pubE (k : Bk) (lab val : List UInt8) : Int :=
  if checkBk k then (if itemB lab val (cntL k.ents lab + 1) then (if cntE k.ents 0 < 8 then 0 else 191) else 100) else 190
def pubK (k : Bk) (lab val : List UInt8) : Bk := if pubE k lab val = 0 then ⟨k.ents ++ [newEnt k lab val], k.eps⟩ else k

/-- The places, among the first so many, that an epoch more has. -/
def tkP (l : List Ent) : Nat → List Nat
  | 0 => []
  | i + 1 => tkP l i ++ match l[i]? with
    | some x => if x.ep = 0 ∧ (tkP l i).length < 4 then [i] else []
    | none => []
/-- The entries behind so many rounds. -/
def tkL (l : List Ent) (ep : Int) : Nat → List Ent
  | 0 => l
  | i + 1 => match l[i]? with
    | some x => if x.ep = 0 ∧ (tkP l i).length < 4 then (tkL l ep i).set i { x with ep := ep } else tkL l ep i
    | none => tkL l ep i
def tickE (k : Bk) : Int := if checkBk k then (if k.eps < 16 then 0 else 193) else 190
def tickK (k : Bk) : Bk := if tickE k = 0 then ⟨tkL k.ents (k.eps + 1) k.ents.length, k.eps + 1⟩ else k
def tickPl (k : Bk) : List Nat := if tickE k = 0 then tkP k.ents k.ents.length else []

/-- The place of an entry of a label, and a version, among the first so many. -/
def getP (l : List Ent) (lab : List UInt8) (ver : Int) : Nat → Option Nat
  | 0 => none
  | i + 1 => match getP l lab ver i with
    | some j => some j
    | none => match l[i]? with
      | some x => if x.label = lab ∧ x.ver = ver then some i else none
      | none => none
def getN (k : Bk) (lab : List UInt8) (ver : Int) : Option Nat := if checkBk k then getP k.ents lab ver k.ents.length else none
def epAt (l : List Ent) (i : Nat) : Int := match l[i]? with
  | some x => x.ep
  | none => 0
def eraE (k : Bk) (lab : List UInt8) (ver : Int) : Int := if checkBk k then (match getN k lab ver with
  | some i => if epAt k.ents i = 0 then 192 else 0
  | none => 192) else 190
def eraL (l : List Ent) (i : Nat) : List Ent := match l[i]? with
  | some x => l.set i { x with er := true, value := [] }
  | none => l
def eraK (k : Bk) (lab : List UInt8) (ver : Int) : Bk := if eraE k lab ver = 0 then ⟨eraL k.ents ((getN k lab ver).getD 0), k.eps⟩ else k

/- Rounds. -/
section
variable {l : List Ent} {ep : Int} {i j : Nat} {x : Ent}
theorem tkP_set (h : l[i]? = some x) (h0 : x.ep = 0) (h4 : (tkP l i).length < 4) : tkP l (i + 1) = tkP l i ++ [i] := by simp only [tkP, h]; rw [if_pos ⟨h0, h4⟩]
theorem tkP_keep (h : l[i]? = some x) (h0 : x.ep ≠ 0) : tkP l (i + 1) = tkP l i := by simp only [tkP, h]; rw [if_neg (fun h => h0 h.1), List.append_nil]
theorem tkP_full (h4 : ¬ (tkP l i).length < 4) : tkP l (i + 1) = tkP l i := by
  simp only [tkP]
  rcases l[i]? with _ | x
  · simp
  · simp only; rw [if_neg (fun h => h4 h.2), List.append_nil]
theorem tkL_set (h : l[i]? = some x) (h0 : x.ep = 0) (h4 : (tkP l i).length < 4) : tkL l ep (i + 1) = (tkL l ep i).set i { x with ep := ep } := by simp only [tkL, h]; rw [if_pos ⟨h0, h4⟩]
theorem tkL_keep (h : l[i]? = some x) (h0 : x.ep ≠ 0) : tkL l ep (i + 1) = tkL l ep i := by simp only [tkL, h]; rw [if_neg (fun h => h0 h.1)]
theorem tkL_full (h4 : ¬ (tkP l i).length < 4) : tkL l ep (i + 1) = tkL l ep i := by
  simp only [tkL]
  rcases l[i]? with _ | x
  · rfl
  · simp only; rw [if_neg (fun h => h4 h.2)]
theorem tk_full_all (h4 : ¬ (tkP l i).length < 4) : ∀ d, tkP l (i + d) = tkP l i ∧ tkL l ep (i + d) = tkL l ep i
  | 0 => ⟨rfl, rfl⟩
  | d + 1 => by
    obtain ⟨h1, h2⟩ := tk_full_all h4 d
    have h5 : ¬ (tkP l (i + d)).length < 4 := by rw [h1]; exact h4
    exact ⟨(tkP_full h5).trans h1, (tkL_full h5).trans h2⟩
theorem tkP_le (l : List Ent) (i : Nat) : (tkP l i).length ≤ 4 ∧ (tkP l i).length ≤ i := by
  induction i with
  | zero => simp [tkP]
  | succ i ih =>
    simp only [tkP, List.length_append]
    rcases l[i]? with _ | x
    · simp; omega
    · simp only
      split
      · rename_i h; simp; omega
      · simp; omega
theorem tkL_len (l : List Ent) (ep : Int) (i : Nat) : (tkL l ep i).length = l.length := by
  induction i with
  | zero => rfl
  | succ i ih =>
    simp only [tkL]
    rcases l[i]? with _ | x
    · exact ih
    · simp only
      split
      · rw [List.length_set]; exact ih
      · exact ih
theorem tkP_mem (l : List Ent) (i : Nat) : ∀ j ∈ tkP l i, j < i ∧ ∃ x, l[j]? = some x ∧ x.ep = 0 := by
  induction i with
  | zero => intro j hj; simp [tkP] at hj
  | succ i ih =>
    intro j hj
    simp only [tkP, List.mem_append] at hj
    rcases hj with hj | hj
    · obtain ⟨h1, h2⟩ := ih j hj
      exact ⟨by omega, h2⟩
    · rcases hx : l[i]? with _ | x
      · rw [hx] at hj; simp at hj
      · rw [hx] at hj
        simp only at hj
        split at hj
        · rename_i h
          simp at hj
          subst hj
          exact ⟨by omega, x, hx, h.1⟩
        · simp at hj
/-- Whatever waits ahead of one that an epoch has, it has, too. -/
theorem tkP_down (l : List Ent) (i : Nat) : ∀ j ∈ tkP l i, ∀ (m : Nat) (y : Ent), m < j → l[m]? = some y → y.ep = 0 → m ∈ tkP l i := by
  have full : ∀ i, (tkP l i).length < 4 → ∀ (m : Nat) (y : Ent), m < i → l[m]? = some y → y.ep = 0 → m ∈ tkP l i := by
    intro i
    induction i with
    | zero => intro _ m y hm; omega
    | succ i ih =>
      intro h4 m y hm hy h0
      have h5 : (tkP l i).length < 4 := by simp only [tkP, List.length_append] at h4; omega
      rcases Nat.lt_or_ge m i with hmi | hmi
      · simp only [tkP, List.mem_append]
        exact .inl (ih h5 m y hmi hy h0)
      · obtain rfl : m = i := by omega
        rw [tkP_set hy h0 h5]
        simp
  induction i with
  | zero => intro j hj; simp [tkP] at hj
  | succ i ih =>
    intro j hj m y hm hy h0
    rcases hx : l[i]? with _ | x
    · have e : tkP l (i + 1) = tkP l i := by simp only [tkP, hx, List.append_nil]
      rw [e] at hj ⊢
      exact ih j hj m y hm hy h0
    · by_cases h : x.ep = 0 ∧ (tkP l i).length < 4
      · rw [tkP_set hx h.1 h.2, List.mem_append] at hj ⊢
        rcases hj with hj | hj
        · exact .inl (ih j hj m y hm hy h0)
        · simp at hj
          subst hj
          exact .inl (full j h.2 m y hm hy h0)
      · have e : tkP l (i + 1) = tkP l i := by simp only [tkP, hx]; rw [if_neg h, List.append_nil]
        rw [e] at hj ⊢
        exact ih j hj m y hm hy h0
theorem tkL_get (l : List Ent) (ep : Int) (i : Nat) : ∀ j, (tkL l ep i)[j]? = (l[j]?).map fun x => if j ∈ tkP l i then { x with ep := ep } else x := by
  induction i with
  | zero => intro j; simp [tkL, tkP]
  | succ i ih =>
    intro j
    rcases hx : l[i]? with _ | x
    · have e1 : tkP l (i + 1) = tkP l i := by simp only [tkP, hx, List.append_nil]
      have e2 : tkL l ep (i + 1) = tkL l ep i := by simp only [tkL, hx]
      rw [e1, e2]; exact ih j
    · by_cases h : x.ep = 0 ∧ (tkP l i).length < 4
      · rw [tkP_set hx h.1 h.2, tkL_set hx h.1 h.2]
        by_cases hij : i = j
        · subst hij
          have hi := (List.getElem?_eq_some_iff.1 hx).1
          rw [List.getElem?_set_self (by rw [tkL_len]; exact hi), hx]
          simp
        · rw [List.getElem?_set_ne hij, ih j]
          have e : (j ∈ tkP l i ++ [i]) = (j ∈ tkP l i) := by simp; omega
          simp only [e]
      · have e1 : tkP l (i + 1) = tkP l i := by simp only [tkP, hx]; rw [if_neg h, List.append_nil]
        have e2 : tkL l ep (i + 1) = tkL l ep i := by simp only [tkL, hx]; rw [if_neg h]
        rw [e1, e2]; exact ih j
/-- Entries that are still to come are as they were. -/
theorem tkL_ahead (l : List Ent) (ep : Int) {i j : Nat} (h : i ≤ j) : (tkL l ep i)[j]? = l[j]? := by
  rw [tkL_get]
  have : j ∉ tkP l i := fun hm => by have := (tkP_mem l i j hm).1; omega
  simp [this]
theorem getP_some {l : List Ent} {lab : List UInt8} {ver : Int} {i : Nat} {x : Ent} (h : getP l lab ver i = none) (hx : l[i]? = some x) (hl : x.label = lab) (hv : x.ver = ver) : getP l lab ver (i + 1) = some i := by
  simp only [getP, h, hx]; rw [if_pos ⟨hl, hv⟩]
theorem getP_none {l : List Ent} {lab : List UInt8} {ver : Int} {i : Nat} {x : Ent} (h : getP l lab ver i = none) (hx : l[i]? = some x) (hn : ¬ (x.label = lab ∧ x.ver = ver)) : getP l lab ver (i + 1) = none := by
  simp only [getP, h, hx]; rw [if_neg hn]
theorem getP_more {l : List Ent} {lab : List UInt8} {ver : Int} {i j : Nat} (h : getP l lab ver i = some j) : ∀ d, getP l lab ver (i + d) = some j
  | 0 => h
  | d + 1 => by rw [← Nat.add_assoc, getP, getP_more h d]
theorem getP_lt {l : List Ent} {lab : List UInt8} {ver : Int} {i j : Nat} (h : getP l lab ver i = some j) : j < i ∧ ∃ x, l[j]? = some x ∧ x.label = lab ∧ x.ver = ver := by
  induction i with
  | zero => simp [getP] at h
  | succ i ih =>
    rw [getP] at h
    rcases hg : getP l lab ver i with _ | m
    · rw [hg] at h
      rcases hx : l[i]? with _ | x
      · rw [hx] at h; simp at h
      · rw [hx] at h
        simp only at h
        split at h
        · rename_i hh
          injection h with h
          subst h
          exact ⟨by omega, x, hx, hh.1, hh.2⟩
        · cases h
    · rw [hg] at h
      injection h with h
      subst h
      obtain ⟨h1, h2⟩ := ih hg
      exact ⟨by omega, h2⟩
theorem getP_first {l : List Ent} {lab : List UInt8} {ver : Int} {i : Nat} (h : getP l lab ver i = none) : ∀ (j : Nat) (x : Ent), j < i → l[j]? = some x → ¬ (x.label = lab ∧ x.ver = ver) := by
  induction i with
  | zero => intro j x hj; omega
  | succ i ih =>
    rw [getP] at h
    rcases hg : getP l lab ver i with _ | m
    · rw [hg] at h
      intro j x hj hx
      rcases Nat.lt_or_ge j i with hji | hji
      · exact ih hg j x hji hx
      · obtain rfl : j = i := by omega
        rw [hx] at h
        simp only at h
        split at h
        · cases h
        · assumption
    · rw [hg] at h; cases h
end
end Go.Proofs.Ytkiijbbcfbkecaa
