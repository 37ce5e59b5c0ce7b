/- What is done to a book that may be makes one that may be. Plain Lean: no program here. -/
import Derived.Test.YtkiijbbcfbkecaaP2
namespace Go.Proofs.Ytkiijbbcfbkecaa
open Go.RowKit

theorem check_fits (k : Bk) : checkBk k = true ↔ (0 ≤ k.eps ∧ k.eps ≤ 16 ∧ k.ents.length ≤ 72) ∧ ∀ (i : Nat) (x : Ent), k.ents[i]? = some x → fitsB x (k.ents.take i) k.eps = true := by
  unfold checkBk
  simp only [Bool.and_eq_true, decide_eq_true_eq, List.all_eq_true, List.mem_range, and_assoc]
  constructor
  · rintro ⟨h1, h2, h3, h4⟩
    refine ⟨h1, h2, h3, fun i x hx => ?_⟩
    have := h4 i (List.getElem?_eq_some_iff.1 hx).1
    unfold fitsAt at this
    rw [hx] at this
    exact this
  · rintro ⟨h1, h2, h3, h4⟩
    refine ⟨h1, h2, h3, fun i hi => ?_⟩
    have hx : k.ents[i]? = some k.ents[i] := List.getElem?_eq_getElem hi
    unfold fitsAt
    rw [hx]
    exact h4 i _ hx
theorem check_may (k : Bk) : checkBk k = true ↔ (0 ≤ k.eps ∧ k.eps ≤ 16 ∧ k.ents.length ≤ 72) ∧ ∀ (i : Nat) (x : Ent), k.ents[i]? = some x → mayB k i x = true := by
  rw [← rcheck_eq]
  unfold rcheckBk
  simp only [Bool.and_eq_true, decide_eq_true_eq, List.all_eq_true, List.mem_range, and_assoc]
  constructor
  · rintro ⟨h1, h2, h3, h4⟩
    refine ⟨h1, h2, h3, fun i x hx => ?_⟩
    have := h4 i (List.getElem?_eq_some_iff.1 hx).1
    unfold mayAt at this
    rw [hx] at this
    exact this
  · rintro ⟨h1, h2, h3, h4⟩
    refine ⟨h1, h2, h3, fun i hi => ?_⟩
    have hx : k.ents[i]? = some k.ents[i] := List.getElem?_eq_getElem hi
    unfold mayAt
    rw [hx]
    exact h4 i _ hx

/-- How many entries the epochs below n have. -/
def sumE (l : List Ent) : Nat → Nat
  | 0 => 0
  | n + 1 => sumE l n + cntE l n
theorem cntE_cons (x : Ent) (l : List Ent) (ep : Int) : cntE (x :: l) ep = cntE l ep + if x.ep = ep then 1 else 0 := by
  unfold cntE
  rw [List.countP_cons]
  by_cases h : x.ep = ep <;> simp [h]
theorem sumE_cons (x : Ent) (l : List Ent) : ∀ n : Nat, sumE (x :: l) n = sumE l n + if 0 ≤ x.ep ∧ x.ep < (n : Int) then 1 else 0
  | 0 => by simp only [sumE]; rw [if_neg (by omega)]
  | n + 1 => by
    simp only [sumE]
    rw [sumE_cons x l n, cntE_cons]
    by_cases h1 : 0 ≤ x.ep ∧ x.ep < (n : Int)
    · rw [if_pos h1, if_neg (by omega), if_pos (by omega)]; omega
    · rw [if_neg h1]
      by_cases h2 : x.ep = (n : Int)
      · rw [if_pos h2, if_pos (by omega)]; omega
      · rw [if_neg h2, if_neg (by omega)]; omega
theorem sumE_len (n : Nat) : ∀ l : List Ent, (∀ x ∈ l, 0 ≤ x.ep ∧ x.ep < (n : Int)) → sumE l n = l.length
  | [], _ => by
    have : ∀ m, sumE [] m = 0 := by
      intro m
      induction m with
      | zero => rfl
      | succ m ih => simp only [sumE, ih]; rfl
    exact this n
  | x :: l, h => by
    rw [sumE_cons, if_pos (h x (by simp)), sumE_len n l (fun y hy => h y (by simp [hy]))]
    rfl
theorem sumE_most (l : List Ent) (h : ∀ ep : Int, 0 < ep → cntE l ep ≤ 4) : ∀ n : Nat, sumE l (n + 1) ≤ cntE l 0 + 4 * n
  | 0 => by simp [sumE]
  | n + 1 => by
    have := sumE_most l h n
    have := h ((n + 1 : Nat) : Int) (by omega)
    simp only [sumE] at *
    omega

theorem check_cnt {k : Bk} (h : checkBk k = true) (ep : Int) : cntE k.ents ep ≤ mostN ep := by
  obtain ⟨_, h2⟩ := (check_fits k).1 h
  have := cnt_most (fun i x hx => (fitsB_iff.1 (h2 i x hx)).2.2.2) ep k.ents.length (Nat.le_refl _)
  rwa [List.take_length] at this
theorem check_ep {k : Bk} (h : checkBk k = true) {x : Ent} (hx : x ∈ k.ents) : 0 ≤ x.ep ∧ x.ep ≤ k.eps := by
  obtain ⟨_, h2⟩ := (check_fits k).1 h
  obtain ⟨i, hi⟩ := List.getElem?_of_mem hx
  obtain ⟨⟨_, g1, g2, _⟩, _⟩ := fitsB_iff.1 (h2 i x hi)
  exact ⟨g1, g2⟩

theorem pub_zero {k : Bk} {lab val : List UInt8} (h : pubE k lab val = 0) : checkBk k = true ∧ itemB lab val (cntL k.ents lab + 1) = true ∧ cntE k.ents 0 < 8 := by
  unfold pubE at h
  split at h
  · split at h
    · split at h
      · exact ⟨‹_›, ‹_›, ‹_›⟩
      · cases h
    · cases h
  · cases h
theorem pub_check {k : Bk} (lab val : List UInt8) (hk : checkBk k = true) : checkBk (pubK k lab val) = true := by
  unfold pubK
  split
  · rename_i h
    obtain ⟨_, h1, h2⟩ := pub_zero h
    obtain ⟨⟨g1, g2, g3⟩, g4⟩ := (check_fits k).1 hk
    have hlen : k.ents.length ≤ 71 := by
      have := sumE_len 17 k.ents (fun x hx => by have := check_ep hk hx; omega)
      have : sumE k.ents 17 ≤ cntE k.ents 0 + 4 * 16 := sumE_most k.ents (fun ep hep => by have := check_cnt hk ep; unfold mostN at this; rw [if_neg (by omega)] at this; exact this) 16
      omega
    refine (check_fits _).2 ⟨⟨g1, g2, by simp; omega⟩, fun i x hx => ?_⟩
    dsimp only at hx ⊢
    rcases Nat.lt_or_ge i k.ents.length with hi | hi
    · rw [List.getElem?_append_left hi] at hx
      rw [List.take_append_of_le_length (by omega)]
      exact g4 i x hx
    · have hi' := (List.getElem?_eq_some_iff.1 hx).1
      rw [List.length_append] at hi'
      have e : i = k.ents.length := by simp at hi'; omega
      subst e
      have hx' : newEnt k lab val = x := by simpa using hx
      subst hx'
      rw [List.take_append_of_le_length (Nat.le_refl _), List.take_length]
      refine fitsB_iff.2 ⟨⟨h1, Int.le_refl _, g1, rfl⟩, fun o _ => rfl, rfl, ?_⟩
      show cntE k.ents 0 < 8
      exact h2
  · exact hk

theorem cntL_map (l : List Ent) (lab : List UInt8) : cntL l lab = (l.map Ent.label).countP (fun a => decide (a = lab)) := by
  unfold cntL
  rw [List.countP_map]
  rfl
theorem cntE_map (l : List Ent) (ep : Int) : cntE l ep = (l.map Ent.ep).countP (fun a => decide (a = ep)) := by
  unfold cntE
  rw [List.countP_map]
  rfl
theorem cntE_set {l : List Ent} {i : Nat} {x y : Ent} (h : l[i]? = some x) (ep : Int) : cntE (l.set i y) ep + (if x.ep = ep then 1 else 0) = cntE l ep + (if y.ep = ep then 1 else 0) := by
  induction l generalizing i with
  | nil => simp at h
  | cons a l ih =>
    cases i with
    | zero =>
      simp at h
      subst h
      rw [List.set_cons_zero, cntE_cons, cntE_cons]
      omega
    | succ i =>
      rw [List.getElem?_cons_succ] at h
      rw [List.set_cons_succ, cntE_cons, cntE_cons]
      have := ih h
      omega
theorem take_map_eq {l l' : List Ent} {α : Type} (f : Ent → α) (h : l'.map f = l.map f) (i : Nat) : (l'.take i).map f = (l.take i).map f := by
  rw [List.map_take, List.map_take, h]

theorem tk_labels (l : List Ent) (ep : Int) (i : Nat) : (tkL l ep i).map Ent.label = l.map Ent.label := by
  refine List.ext_getElem? fun j => ?_
  rw [List.getElem?_map, List.getElem?_map, tkL_get]
  rcases l[j]? with _ | x
  · rfl
  · simp only [Option.map_some]
    split <;> rfl
theorem tk_cnt_new (l : List Ent) {ep : Int} (hep : ep ≠ 0) (hno : ∀ x ∈ l, x.ep ≠ ep) (i : Nat) : cntE (tkL l ep i) ep = (tkP l i).length := by
  induction i with
  | zero =>
    simp only [tkL, tkP, List.length_nil, cntE]
    rw [List.countP_eq_zero]
    intro x hx
    simpa using hno x hx
  | succ i ih =>
    rcases hx : l[i]? with _ | x
    · have e1 : tkP l (i + 1) = tkP l i := by simp only [tkP, hx, List.append_nil]
      have e2 : tkL l ep (i + 1) = tkL l ep i := by simp only [tkL, hx]
      rw [e1, e2]; exact ih
    · by_cases h : x.ep = 0 ∧ (tkP l i).length < 4
      · rw [tkP_set hx h.1 h.2, tkL_set hx h.1 h.2]
        have hg := tkL_ahead l ep (Nat.le_refl i)
        rw [hx] at hg
        have := cntE_set (y := { x with ep := ep }) hg ep
        rw [if_neg (by rw [h.1]; exact fun e => hep e.symm), if_pos rfl] at this
        rw [List.length_append, ← ih]
        simpa using this
      · have e1 : tkP l (i + 1) = tkP l i := by simp only [tkP, hx]; rw [if_neg h, List.append_nil]
        have e2 : tkL l ep (i + 1) = tkL l ep i := by simp only [tkL, hx]; rw [if_neg h]
        rw [e1, e2]; exact ih
theorem tk_cnt_old (l : List Ent) {ep e : Int} (hne : e ≠ ep) (i : Nat) : cntE (tkL l ep i) e ≤ cntE l e := by
  induction i with
  | zero => exact Nat.le_refl _
  | succ i ih =>
    rcases hx : l[i]? with _ | x
    · have e2 : tkL l ep (i + 1) = tkL l ep i := by simp only [tkL, hx]
      rw [e2]; exact ih
    · by_cases h : x.ep = 0 ∧ (tkP l i).length < 4
      · rw [tkL_set hx h.1 h.2]
        have hg := tkL_ahead l ep (Nat.le_refl i)
        rw [hx] at hg
        have := cntE_set (y := { x with ep := ep }) hg e
        rw [if_neg (c := ({ x with ep := ep } : Ent).ep = e) (fun h => hne h.symm)] at this
        omega
      · have e2 : tkL l ep (i + 1) = tkL l ep i := by simp only [tkL, hx]; rw [if_neg h]
        rw [e2]; exact ih
theorem prev_of {l : List Ent} {i : Nat} {y : Ent} (h : l[i - 1]? = some y) : prevEp l i = y.ep := by unfold prevEp; rw [h]
theorem tick_zero {k : Bk} (h : tickE k = 0) : checkBk k = true ∧ k.eps < 16 := by
  unfold tickE at h
  split at h
  · split at h
    · exact ⟨‹_›, ‹_›⟩
    · cases h
  · cases h
theorem tick_check {k : Bk} (hk : checkBk k = true) : checkBk (tickK k) = true := by
  unfold tickK
  split
  · rename_i h
    obtain ⟨_, h1⟩ := tick_zero h
    obtain ⟨⟨g1, g2, g3⟩, g4⟩ := (check_may k).1 hk
    have hno : ∀ x ∈ k.ents, x.ep ≠ k.eps + 1 := fun x hx => by have := check_ep hk hx; omega
    refine (check_may _).2 ⟨⟨by dsimp only; omega, by dsimp only; omega, by dsimp only; rw [tkL_len]; exact g3⟩, fun i x hx => ?_⟩
    dsimp only at hx
    have hx' := hx
    rw [tkL_get] at hx'
    rcases hy : k.ents[i]? with _ | y
    · rw [hy] at hx'; simp at hx'
    · rw [hy] at hx'
      simp only [Option.map_some, Option.some.injEq] at hx'
      obtain ⟨⟨m1, m2, m3, m4⟩, m5, m6, m7⟩ := mayB_iff.1 (g4 i y hy)
      have hcl : cntL ((tkL k.ents (k.eps + 1) k.ents.length).take i) y.label = cntL (k.ents.take i) y.label := by
        rw [cntL_map, cntL_map, take_map_eq _ (tk_labels _ _ _)]
      by_cases hm : i ∈ tkP k.ents k.ents.length
      · rw [if_pos hm] at hx'
        subst hx'
        obtain ⟨_, y', hy', hy0⟩ := tkP_mem _ _ i hm
        rw [hy] at hy'
        injection hy' with hy'
        subst hy'
        refine mayB_iff.2 ⟨⟨m1, by dsimp only; omega, Int.le_refl _, ?_⟩, ?_, ?_, ?_⟩
        · have : y.er = false := by
            rcases he : y.er with _ | _
            · rfl
            · rw [he, hy0] at m4; simp at m4
          simp [this]
        · rcases Nat.eq_zero_or_pos i with h0 | h0
          · exact .inl h0
          · refine .inr (.inr ?_)
            have hi := (List.getElem?_eq_some_iff.1 hy).1
            have hp : k.ents[i - 1]? = some (k.ents[i - 1]'(by omega)) := List.getElem?_eq_getElem _
            have hpe := check_ep hk (List.getElem_mem (l := k.ents) (n := i - 1) (by omega))
            by_cases hp0 : (k.ents[i - 1]'(by omega)).ep = 0
            · have hpm := tkP_down _ _ i hm (i - 1) _ (by omega) hp hp0
              have hq := tkL_get k.ents (k.eps + 1) k.ents.length (i - 1)
              rw [hp, Option.map_some, if_pos hpm] at hq
              rw [prev_of hq]
              dsimp only
              omega
            · have hpm : i - 1 ∉ tkP k.ents k.ents.length := fun hmm => by
                obtain ⟨_, z, hz, hz0⟩ := tkP_mem _ _ _ hmm
                rw [hp] at hz
                injection hz with hz
                exact hp0 (by rw [hz]; exact hz0)
              have hq := tkL_get k.ents (k.eps + 1) k.ents.length (i - 1)
              rw [hp, Option.map_some, if_neg hpm] at hq
              rw [prev_of hq]
              dsimp only
              omega
        · dsimp only; rw [hcl]; exact m6
        · dsimp only
          rw [tk_cnt_new _ (by omega) hno]
          unfold mostN
          rw [if_neg (by omega)]
          exact (tkP_le _ _).1
      · rw [if_neg hm] at hx'
        subst hx'
        refine mayB_iff.2 ⟨⟨m1, m2, by dsimp only; omega, m4⟩, ?_, ?_, ?_⟩
        · rcases m5 with h0 | h0 | ⟨h0, h0'⟩
          · exact .inl h0
          · exact .inr (.inl h0)
          · refine .inr (.inr ?_)
            have hi := (List.getElem?_eq_some_iff.1 hy).1
            have hp : k.ents[i - 1]? = some (k.ents[i - 1]'(by omega)) := List.getElem?_eq_getElem _
            rw [prev_of hp] at h0 h0'
            have hpm : i - 1 ∉ tkP k.ents k.ents.length := fun hmm => by
              obtain ⟨_, z, hz, hz0⟩ := tkP_mem _ _ _ hmm
              rw [hp] at hz
              injection hz with hz
              exact h0 (by rw [hz]; exact hz0)
            have hq := tkL_get k.ents (k.eps + 1) k.ents.length (i - 1)
            rw [hp, Option.map_some, if_neg hpm] at hq
            dsimp only
            rw [prev_of hq]
            exact ⟨h0, h0'⟩
        · dsimp only; rw [hcl]; exact m6
        · dsimp only
          exact Nat.le_trans (tk_cnt_old _ (by have := check_ep hk (List.mem_of_getElem? hy); omega) _) m7
  · exact hk

theorem era_zero {k : Bk} {lab : List UInt8} {ver : Int} (h : eraE k lab ver = 0) : checkBk k = true ∧ ∃ i x, getN k lab ver = some i ∧ k.ents[i]? = some x ∧ x.ep ≠ 0 ∧ eraL k.ents i = k.ents.set i { x with er := true, value := [] } := by
  unfold eraE at h
  split at h
  · rename_i hc
    refine ⟨hc, ?_⟩
    rcases hg : getN k lab ver with _ | i
    · rw [hg] at h; cases h
    · rw [hg] at h
      simp only at h
      split at h
      · cases h
      · rename_i h0
        rcases hx : k.ents[i]? with _ | x
        · simp [epAt, hx] at h0
        · refine ⟨i, x, rfl, hx, by simpa [epAt, hx] using h0, ?_⟩
          simp only [eraL, hx]
  · cases h
theorem set_map_eq {l : List Ent} {i : Nat} {x y : Ent} {α : Type} (f : Ent → α) (h : l[i]? = some x) (hf : f y = f x) : (l.set i y).map f = l.map f := by
  refine List.ext_getElem? fun j => ?_
  rw [List.getElem?_map, List.getElem?_map]
  by_cases hij : i = j
  · subst hij
    rw [List.getElem?_set_self (List.getElem?_eq_some_iff.1 h).1, h]
    simp [hf]
  · rw [List.getElem?_set_ne hij]
theorem prev_map {l l' : List Ent} (h : l'.map Ent.ep = l.map Ent.ep) (i : Nat) : prevEp l' i = prevEp l i := by
  have := congrArg (fun m : List Int => m[i - 1]?) h
  simp only [List.getElem?_map] at this
  unfold prevEp
  rcases h1 : l'[i - 1]? with _ | a <;> rcases h2 : l[i - 1]? with _ | b <;> rw [h1, h2] at this <;> simp_all
theorem era_check {k : Bk} (lab : List UInt8) (ver : Int) (hk : checkBk k = true) : checkBk (eraK k lab ver) = true := by
  unfold eraK
  split
  · rename_i h
    obtain ⟨_, i, x, hg, hx, h0, he⟩ := era_zero h
    rw [hg, Option.getD_some, he]
    obtain ⟨⟨g1, g2, g3⟩, g4⟩ := (check_may k).1 hk
    have e1 : (k.ents.set i { x with er := true, value := [] }).map Ent.ep = k.ents.map Ent.ep := set_map_eq _ hx rfl
    have e2 : (k.ents.set i { x with er := true, value := [] }).map Ent.label = k.ents.map Ent.label := set_map_eq _ hx rfl
    refine (check_may _).2 ⟨⟨g1, g2, by dsimp only; rw [List.length_set]; exact g3⟩, fun j y hy => ?_⟩
    dsimp only at hy
    have main : ∀ z, k.ents[j]? = some z → y.label = z.label → y.ver = z.ver → y.ep = z.ep → itemB y.label y.value y.ver = true → (y.er && (decide (0 < y.value.length) || decide (y.ep = 0))) = false → mayB ⟨k.ents.set i { x with er := true, value := [] }, k.eps⟩ j y = true := by
      intro z hz p1 p2 p3 p4 p5
      obtain ⟨⟨m1, m2, m3, m4⟩, m5, m6, m7⟩ := mayB_iff.1 (g4 j z hz)
      refine mayB_iff.2 ⟨⟨p4, by rw [p3]; exact m2, by rw [p3]; exact m3, p5⟩, ?_, ?_, ?_⟩
      · dsimp only; rw [prev_map e1, p3]; exact m5
      · dsimp only; rw [cntL_map, take_map_eq _ e2, ← cntL_map, p1, p2]; exact m6
      · dsimp only; rw [cntE_map, e1, ← cntE_map, p3]; exact m7
    by_cases hij : i = j
    · subst hij
      rw [List.getElem?_set_self (List.getElem?_eq_some_iff.1 hx).1] at hy
      injection hy with hy
      subst hy
      obtain ⟨⟨m1, _⟩, _⟩ := mayB_iff.1 (g4 i x hx)
      refine main x hx rfl rfl rfl ?_ ?_
      · simp only [itemB, Bool.and_eq_true, decide_eq_true_eq] at m1 ⊢
        simp
        omega
      · simp [h0]
    · rw [List.getElem?_set_ne hij] at hy
      obtain ⟨⟨m1, m2, m3, m4⟩, m5, m6, m7⟩ := mayB_iff.1 (g4 j y hy)
      exact main y hy rfl rfl rfl m1 m4
  · exact hk
end Go.Proofs.Ytkiijbbcfbkecaa
